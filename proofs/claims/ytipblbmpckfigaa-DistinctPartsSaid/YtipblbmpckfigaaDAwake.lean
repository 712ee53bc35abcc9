/- Contract of layer 13's awake: the chapter's examples come out. -/
import Derived.Test.YtipblbmpckfigaaDCnt
namespace Go.Proofs.Ytipblbmpckfigaa
open Go.RowKit Dist
set_option linter.unusedVariables false

def awA : Int := hash [97]
def awB : Int := hash [98]
def awC : Int := hash [99]
def aw1 : List Int := insU [] awA
def aw2 : List Int := insU aw1 awB
def aw3 : List Int := insU aw2 awA
def aw4 : List Int := insU aw3 awC
theorem aw_r1 : addRet 2 [] awA = true := by decide +kernel
theorem aw_r2 : addRet 2 aw1 awB = true := by decide +kernel
theorem aw_r3 : addRet 2 aw2 awA = false := by decide +kernel
theorem aw_l3 : aw3.length = 2 := by decide +kernel
theorem aw_l4 : aw4.length = 3 := by decide +kernel
/-- an Add of one of the examples' letters -/
theorem aw_add (g : Nat) (v : Value) (L : List Int) (c : UInt8) (h : Int) (w : World) (hC : Cnt w g v 2 L) (hh : hash [c] = h) :
    Calls Try.prog 18 #[.pointer (some ⟨g, 0, none⟩), .string ⟨#[c]⟩] w (CAddPost g v 2 L h w) := by
  have := Add_any g 2 v L ⟨#[c]⟩ w hC (show 1 ≤ maxLen from by unfold maxLen; omega)
  rw [← hh]; exact this
set_option maxHeartbeats 1000000 in
theorem awake_any (w : World) :
    Calls Try.prog 10 #[] w fun e w' => e = .returned (.bool true) ∧ Below w.heap.size w w' := by
  have N := Lib.hid (fun w => New_any 2 w)
  rw [show sizeK 2 = 2 from rfl] at N
  go_enter Try.func10, Try.ntmps10
  go_wp2_with fail
  refine (N.out _).mono ?_
  rintro e w1 ⟨rfl, C0, hw1⟩
  have B1 : Below w.heap.size w w1 := by rw [hw1]; exact (Below.refl _ _).alloc (Nat.le_refl _) _
  clear hw1
  generalize hg : w.heap.size = g at *
  have B2 : g ≤ w1.heap.size := by rw [← hg]; exact B1.size
  go_wp2_with fail
  refine (aw_add g _ [] 97 awA _ C0 rfl).mono ?_
  rintro e w2 ⟨v1, rfl, C1, F1, S1⟩
  rw [aw_r1]
  replace C1 : Cnt w2 g v1 2 aw1 := C1
  replace B1 : Below g w w2 := B1.trans (F1.below B2 (fun b hb => by rcases hb with rfl | hb; exact Nat.le_refl _; cases hb))
  have T1 : ∀ b, v1.ownBlock = some b → g ≤ b := fun b hb => by
    rcases S1 with e | ⟨c, e, hc⟩
    · rw [e] at hb; cases hb
    · rw [e] at hb; cases hb; omega
  replace B2 : g ≤ w2.heap.size := by have := F1.size; omega
  clear C0 F1 S1
  go_wp2_with fail
  refine (aw_add g _ aw1 98 awB _ C1 rfl).mono ?_
  rintro e w3 ⟨v2, rfl, C2, F2, S2⟩
  rw [aw_r2]
  replace C2 : Cnt w3 g v2 2 aw2 := C2
  replace B1 : Below g w w3 := B1.trans (F2.below B2 (fun b hb => by rcases hb with rfl | hb; exact Nat.le_refl _; exact T1 b hb))
  have T2 : ∀ b, v2.ownBlock = some b → g ≤ b := fun b hb => by
    rcases S2 with e | ⟨c, e, hc⟩
    · rw [e] at hb; exact T1 b hb
    · rw [e] at hb; cases hb; omega
  replace B2 : g ≤ w3.heap.size := by have := F2.size; omega
  clear C1 F2 S2 T1
  go_wp2_with fail
  refine (aw_add g _ aw2 97 awA _ C2 rfl).mono ?_
  rintro e w4 ⟨v3, rfl, C3, F3, S3⟩
  rw [aw_r3]
  replace C3 : Cnt w4 g v3 2 aw3 := C3
  replace B1 : Below g w w4 := B1.trans (F3.below B2 (fun b hb => by rcases hb with rfl | hb; exact Nat.le_refl _; exact T2 b hb))
  have T3 : ∀ b, v3.ownBlock = some b → g ≤ b := fun b hb => by
    rcases S3 with e | ⟨c, e, hc⟩
    · rw [e] at hb; exact T2 b hb
    · rw [e] at hb; cases hb; omega
  replace B2 : g ≤ w4.heap.size := by have := F3.size; omega
  clear C2 F3 S3 T2
  have K1 := Lib.hid (Count_exact g 2 v3 aw3 w4 C3 (by rw [aw_l3]; omega))
  have K2 := Lib.hid (Exact_any g 2 v3 aw3 w4 C3)
  rw [aw_l3] at K1 K2
  go_wp2_with fail
  refine K1.out.mono ?_
  rintro e w5 ⟨rfl, rfl⟩
  go_wp2_with fail
  refine K2.out.mono ?_
  rintro e w5 ⟨rfl, rfl⟩
  go_wp2_with fail
  refine (aw_add g _ aw3 99 awC _ C3 rfl).mono ?_
  rintro e w6 ⟨v4, rfl, C4, F4, S4⟩
  replace C4 : Cnt w6 g v4 2 aw4 := C4
  replace B1 : Below g w w6 := B1.trans (F4.below B2 (fun b hb => by rcases hb with rfl | hb; exact Nat.le_refl _; exact T3 b hb))
  have K3 := Lib.hid (Exact_any g 2 v4 aw4 w6 C4)
  have K4 := Lib.hid (Least_any g 2 v4 aw4 w6 C4)
  have e4 : leastOf 2 aw4 = 3 := by simp [leastOf, aw_l4]
  rw [aw_l4] at K3
  rw [e4] at K4
  generalize addRet 2 aw3 awC = r at *
  clear e4 F4 S4 T3 K1 K2 C3
  go_wp2_with fail
  refine K3.out.mono ?_
  rintro e w5 ⟨rfl, rfl⟩
  go_wp2_with fail
  refine K4.out.mono ?_
  rintro e w5 ⟨rfl, rfl⟩
  go_wp2_with fail
  go_ret
  exact ⟨rfl, by rw [hg]; exact B1⟩
end Go.Proofs.Ytipblbmpckfigaa

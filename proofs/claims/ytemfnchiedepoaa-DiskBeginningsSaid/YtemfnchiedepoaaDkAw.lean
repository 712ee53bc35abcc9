/- Contract of the law's awake. -/
import Derived.Test.YtemfnchiedepoaaDkOw
namespace Go.Proofs.Ytemfnchiedepoaa
open Go.RowKit Go.MapKept Go.Maps
set_option linter.unusedVariables false
/-- a marked row of constants -/
theorem in_mark {w : World} {s : ByteArray} {C : Array Value} {e : TypeId} {fr : Nat × Nat} (hC : C.toList = bV s) : ByIn (w.alloc (.cells C e fr)) (some ⟨w.heap.size, 0, none⟩) s := by
  refine .inr ⟨w.heap.size, 0, rfl, by simp, fun i c hi j u hj => ?_⟩
  rw [List.getElem?_map] at hi
  obtain ⟨x, hx, rfl⟩ := Option.map_eq_some_iff.1 hi
  match j, hj with
  | 0, hj =>
    cases hj
    have h1 := World.cell?_alloc_mark w C e fr i
    have h2 : C[i]? = some (byV x) := by
      rw [← Array.getElem?_toList, hC]
      unfold bV
      rw [List.getElem?_map, hx]; rfl
    rw [h2] at h1
    simpa using h1
def sAb : ByteArray := ⟨#[97, 98]⟩
def sCd : ByteArray := ⟨#[99, 100]⟩
def nF : ByteArray := ⟨#[102]⟩
def x1 : Dk := (stepA newD nF sAb).1
def x2 : Dk := (stepS x1 nF).1
def x3 : Dk := (stepA x2 nF sCd).1
def x4 : Dk := crashD x3 [1]
theorem aw1 : (stepA newD nF sAb).2 = 0 := by kernel_rfl
theorem aw2 : (stepS x1 nF).2 = 0 := by kernel_rfl
theorem aw3 : (stepA x2 nF sCd).2 = 0 := by kernel_rfl
theorem aw4 : readD x4 nF = (⟨#[97, 98, 99]⟩, 0) := by kernel_rfl
set_option maxRecDepth 100000 in
set_option maxHeartbeats 4000000 in
theorem awake_any (w : World) : Calls Try.prog 18 #[] w fun e w' => e = .returned (.bool true) ∧ Below w.heap.size w w' := by
  have kc := fun (w : World) (C : Array Value) (n c : Nat) => Go.Lib.run_convert_bytes_const (P := Try.prog) w 28 5 C n c Try.underlying28 Try.underlying5
  have HN := Lib.hid (new_own w w (Below.refl _ _))
  go_enter Try.func18, Try.ntmps18
  go_wp2_with fail
  refine HN.out.mono ?_
  rintro e w1 ⟨d, rfl, hd1⟩
  have HA1 := Lib.hid (append_own hd1 ((Below.refl _ _).alloc (Nat.le_refl _) (.cells #[.int .u8 97, .int .u8 98] 5 (2, 3))) nF sAb (some ⟨w1.heap.size, 0, none⟩) 2 (by decide) (in_mark rfl) (fun k o hk => by cases hk; exact Nat.le_refl _) (by decide) 2 rfl)
  clear hd1 HN
  go_wp2_with fail
  refine HA1.out.mono ?_
  rintro e w2 ⟨rfl, hd2⟩
  rw [aw1]
  have HS := Lib.hid (sync_own hd2 nF (by decide))
  clear hd2 HA1
  go_wp2_with fail
  refine HS.out.mono ?_
  rintro e w3 ⟨rfl, hd3⟩
  rw [show (stepS (stepA newD nF sAb).1 nF).2 = 0 from aw2]
  have HA2 := Lib.hid (append_own hd3 ((Below.refl _ _).alloc (Nat.le_refl _) (.cells #[.int .u8 99, .int .u8 100] 5 (2, 3))) nF sCd (some ⟨w3.heap.size, 0, none⟩) 2 (by decide) (in_mark rfl) (fun k o hk => by cases hk; exact Nat.le_refl _) (by decide) 2 rfl)
  clear hd3 HS
  go_wp2_with fail
  refine HA2.out.mono ?_
  rintro e w4 ⟨rfl, hd4⟩
  rw [show (stepA (stepS (stepA newD nF sAb).1 nF).1 nF sCd).2 = 0 from aw3]
  have hin : IntIn (w4.alloc (.cells #[.int .i64 1] 3)) (some ⟨w4.heap.size, 0, none⟩) [1] := .inr ⟨w4.heap.size, 0, rfl, by simp, fun i c hi j u hj => by
    have hb := Bk.new w4 [.int .i64 1] 3
    match i, hi with
    | 0, hi => cases hi; match j, hj with
               | 0, hj => cases hj; exact hb.cell 0⟩
  have HC := Lib.hid (crash_own hd4 ((Below.refl _ _).alloc (Nat.le_refl _) (.cells #[.int .i64 1] 3)) [1] (by intro x hx; simp at hx; subst hx; unfold I64; omega) (by decide) (some ⟨w4.heap.size, 0, none⟩) 1 hin (.inr fun k o hk => by cases hk; exact .inr (Nat.le_refl _)) 1 rfl)
  clear hd4 HA2 hin
  go_wp2_with fail
  refine HC.out.mono ?_
  rintro e w5 ⟨rfl, hd5⟩
  have hd5' : DkOwn w w5 d x4 := hd5
  have HR := Lib.hid (read_own hd5' nF (by decide))
  clear hd5 HC hd5'
  go_wp2_with fail
  refine HR.out.mono ?_
  rintro e w6 ⟨u, rfl, hm, hd6⟩
  rw [aw4]
  rw [aw4] at hm
  obtain ⟨b, cap, hu, _, _, hin, _⟩ := row_of_by hm.tx
  subst hu
  have hcv := text_of hin cap
  have hsz : (⟨#[97, 98, 99]⟩ : ByteArray).size = 3 := rfl
  have HB := Lib.hid hd6.bl
  clear hin hm hd6 HR
  rw [hsz] at hcv ⊢
  go_wp2_with fail
  go_ret
  exact ⟨rfl, HB.out⟩
end Go.Proofs.Ytemfnchiedepoaa

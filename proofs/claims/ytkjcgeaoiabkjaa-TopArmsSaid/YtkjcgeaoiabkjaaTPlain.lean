/- TopArms: plain laws. -/
import Derived.Test.YtkjcgeaoiabkjaaTKind
namespace Go.Proofs.Ytkjcgeaoiabkjaa
open Go.RowKit
set_option linter.unusedVariables false
def armsL : List ByteArray := [⟨#[120]⟩, ⟨#[121]⟩, ⟨#[122]⟩]
def otherN : ByteArray := ⟨#[111, 116, 104, 101, 114]⟩
def xN : ByteArray := ⟨#[120]⟩
theorem armsL_names : ∀ a ∈ armsL, nameB a = true := by
  intro a ha
  simp only [armsL, List.mem_cons, List.not_mem_nil, or_false] at ha
  rcases ha with rfl | rfl | rfl <;> rfl
theorem armsL_nodup : armsL.Nodup := by
  unfold armsL
  simp [List.nodup_cons]
theorem arms_len {n : Nat} (h : n ≤ 3) : (armsL.take n).length = n := by simp [armsL, List.length_take]; omega
theorem other_name : nameB otherN = true := by rfl
theorem name_x {s : ByteArray} (h : nameB s = true) (hs : s.size ≤ 23) : nameB (s ++ xN) = true := by
  simp only [nameB, Bool.and_eq_true, decide_eq_true_eq] at h ⊢
  obtain ⟨⟨h1, h2⟩, h3⟩ := h
  have e : (s ++ xN).data = s.data ++ xN.data := by simp
  have e1 : (s ++ xN).size = s.size + 1 := by
    show (s ++ xN).data.size = s.data.size + 1
    rw [e, Array.size_append]; rfl
  refine ⟨⟨by omega, by omega⟩, ?_⟩
  rw [e, Array.toList_append, List.all_append, h3]
  rfl
theorem x_ne (s : ByteArray) : s ++ xN ≠ s := by
  intro h
  have e1 : (s ++ xN).data.size = s.data.size + 1 := by
    have e : (s ++ xN).data = s.data ++ xN.data := by simp
    rw [e, Array.size_append]; rfl
  rw [h] at e1
  omega
/-- a trial that may be, with the first arms -/
theorem tr_ok {nm ly : ByteArray} {f t : Int} {n : Nat} (h1 : nameB nm = true) (h2 : nameB ly = true) (h3 : 0 ≤ f) (h4 : f < t) (h5 : t ≤ 1000) (h6 : 1 ≤ n) (h7 : n ≤ 3) : TrOk nm ly f t (armsL.take n) where
  n := h1
  l := h2
  f0 := h3
  ft := h4
  t1 := h5
  a1 := by rw [arms_len h7]; exact h6
  a2 := by rw [arms_len h7]; omega
  an := fun a ha => armsL_names a (List.mem_of_mem_take ha)
  nd := List.Nodup.sublist (List.take_sublist _ _) armsL_nodup
/-- a ramp only adds people -/
theorem armIn_more {ly pn : ByteArray} {f t t' : Int} (h : t ≤ t') (hi : armIn ly f t pn = true) : armIn ly f t' pn = true := by
  simp only [armIn, Bool.and_eq_true, decide_eq_true_eq] at hi ⊢
  omega
/-- a person's arm of the first of two trials -/
theorem armsM_get {arms : List ByteArray} {pn : ByteArray} {u o : TV} (hne : o.nm ≠ u.nm) : mget (armsM arms pn [u, o]) u.nm = if armIn u.ly u.f u.t pn then some (.string (armOf u.nm arms pn)) else none := by
  unfold armsM
  simp only [List.foldl_cons, List.foldl_nil]
  unfold armPut
  by_cases h1 : armIn u.ly u.f u.t pn <;> by_cases h2 : armIn o.ly o.f o.t pn <;> simp [h1, h2, get_put, hne, mget]
end Go.Proofs.Ytkjcgeaoiabkjaa

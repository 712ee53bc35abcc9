/- Aliases in memory: the struct, its map; contracts of Name and shorten. -/
import Derived.Test.YtgflfjmlhapplaaALaw
import Derived.WalkMore
import Derived.ScopeJumps
namespace Go.Proofs.Ytgflfjmlhapplaa
open Go.RowKit Go.MapKept Go.Maps
set_option linter.unusedVariables false
/-- block p is aliases whose map, in block m, is M -/
structure AlR (w : World) (p m : Nat) (M : List (ByteArray × ByteArray)) : Prop where
  bk : Bk w p [.map (some m)] 52
  mp : Mp encS okS w m (M.map fun x => (x.1, .string x.2))
  ne : p ≠ m
theorem AlR.fr {S : Nat → Prop} {w w' : World} {p m : Nat} {M : List (ByteArray × ByteArray)} (h : AlR w p m M) (hf : Fr S w w') (hp : ¬ S p) (hm : ¬ S m) : AlR w' p m M := ⟨h.bk.fr hf hp, h.mp.fr hf hm, h.ne⟩
theorem AlR.bel {w w' : World} {p m : Nat} {M : List (ByteArray × ByteArray)} (h : AlR w p m M) (hb : Below w.heap.size w w') : AlR w' p m M := h.fr (Fr.of_bel (S := none') hb) id id
theorem AlR.drewN {w : World} {p m : Nat} {M : List (ByteArray × ByteArray)} (h : AlR w p m M) (n : Nat) : AlR (w.drewN n) p m M := h.fr ((Fr.refl none' w).drewN n) id id
theorem zeroText (w : World) : (zeroValue 9).run Try.prog w = .ok (.string ⟨#[]⟩) w := by kernel_rfl
/-- 'next, ok := a.next[x]' -/
theorem AlR.lookOk {w : World} {p m : Nat} {M : List (ByteArray × ByteArray)} (h : AlR w p m M) (x : ByteArray) (hx : x.size ≤ maxLen) :
    (Instr.lookup 50 (.map (some m)) (.string x) true).run Try.prog w = .ok (.tuple #[.string ((mget M x).getD ⟨#[]⟩), .bool (mget M x).isSome]) w := by
  have := h.mp.look (P := Try.prog) keyS Try.underlying50 (zeroText w) (a := x) hx true
  rw [mget_map] at this
  cases he : mget M x <;> simpa [he, encS] using this
theorem AlR.look {w : World} {p m : Nat} {M : List (ByteArray × ByteArray)} (h : AlR w p m M) (x : ByteArray) (hx : x.size ≤ maxLen) :
    (Instr.lookup 50 (.map (some m)) (.string x) false).run Try.prog w = .ok (.string ((mget M x).getD ⟨#[]⟩)) w := by
  have := h.mp.look (P := Try.prog) keyS Try.underlying50 (zeroText w) (a := x) hx false
  rw [mget_map] at this
  cases he : mget M x <;> simpa [he, encS] using this
def strOf' : Value → ByteArray
  | .string s => s
  | _ => ⟨#[]⟩
theorem name_size {x : ByteArray} (h : nameB x = true) : x.size ≤ 24 := by
  simp only [nameB, Bool.and_eq_true, decide_eq_true_eq] at h
  exact h.1.2
set_option maxRecDepth 100000 in
set_option maxHeartbeats 1000000 in
theorem name_any (p m : Nat) (M : List (ByteArray × ByteArray)) (r : ByteArray → ByteArray) (x : ByteArray) (w : World) (h : AlR w p m M) (hi : AInv M r) (hx : x.size ≤ 1000) :
    Calls Try.prog 18 #[.pointer (some ⟨p, 0, none⟩), .string x] w fun e w' => e = .returned (.string (r x)) ∧ w = w' := by
  have c0 := h.bk.cell 0
  have hlk : ∀ (z : ByteArray) (b : Bool) (v : ByteArray), z.size ≤ 1000 → (mget M z).isSome = b → (mget M z).getD ⟨#[]⟩ = v → (Instr.lookup 50 (.map (some m)) (.string z) true).run Try.prog w = .ok (.tuple #[.string v, .bool b]) w := fun z b v hz hb hv => by
    have := h.lookOk z (by unfold maxLen; omega)
    rw [hb, hv] at this
    exact this
  have HLK := Lib.hid hlk
  have HI := Lib.hid hi
  have hlp := h.bk.lt
  clear hlk hi h
  go_enter Try.func18, Try.ntmps18
  go_wp2_with fail
  refine wp_scope_jumps 0 (fun a' w' => w' = w ∧ ∃ (z : ByteArray) (u5 u6 u7 u8 u9 u10 u11 u12 u13 u14 u15 u16 u17 : Value), a' = { tmps := #[.pointer (some ⟨p, 0, none⟩), .string z, undef, undef, .string ⟨#[]⟩, u5, u6, u7, u8, u9, u10, u11, u12, u13, u14, u15, u16, u17, undef], defers := [] } ∧ Hid (r z = r x) ∧ z.size ≤ 1000) (fun a' _ => rankA M (strOf' (a'.tmps.getD 1 undef))) rfl ?_ ?_
  · go_wp2_with fail
    go_step3
    cases he : mget M x with
    | none =>
      have g1 := HLK.out x false ⟨#[]⟩ hx (by rw [he]; rfl) (by rw [he]; rfl)
      have hr := HI.out.top x he
      clear he
      go_wp2_with fail
      simp only [Exit.jump]
      go_ret
      exact ⟨by rw [hr]; rfl, rfl⟩
    | some v =>
      have g1 := HLK.out x true v hx (by rw [he]; rfl) (by rw [he]; rfl)
      have hr := Lib.hid (HI.out.step x v he).2
      have hv := name_size (HI.out.ok x v he).2
      clear he
      go_wp2_with fail
      go_step3
      exact ⟨rfl, rfl, v, _, _, _, _, _, _, _, _, _, _, _, _, _, rfl, hr, by omega⟩
  · rintro a' w' ⟨rfl, z, u5, u6, u7, u8, u9, u10, u11, u12, u13, u14, u15, u16, u17, rfl, hz, hzs⟩
    cases he : mget M z with
    | none =>
      have g1 := HLK.out z false ⟨#[]⟩ hzs (by rw [he]; rfl) (by rw [he]; rfl)
      have hr := HI.out.top z he
      clear he
      go_wp2_with fail
      simp only [Exit.jump]
      go_ret
      exact ⟨by rw [← hz.out, hr]; rfl, rfl⟩
    | some v =>
      have g1 := HLK.out z true v hzs (by rw [he]; rfl) (by rw [he]; rfl)
      have hr := Lib.hid ((HI.out.step z v he).2.trans hz.out)
      have hv := name_size (HI.out.ok z v he).2
      have hm := Lib.hid (rankA_lt HI.out.nd ((keys_get HI.out.nd).2 ⟨v, he⟩) (HI.out.step z v he).1)
      clear he
      go_wp2_with fail
      go_step3
      exact ⟨rfl, ⟨rfl, v, _, _, _, _, _, _, _, _, _, _, _, _, _, rfl, hr, by omega⟩, hm.out⟩
theorem jump_normal {l : Nat} {J : Act → World → Prop} {Q : Exit → Act → World → Prop} {a : Act} {w : World} (h : Q .normal a w) : Exit.jump l J Q .normal a w := h
set_option maxRecDepth 100000 in
set_option maxHeartbeats 2000000 in
theorem shorten_any (p m : Nat) (M : List (ByteArray × ByteArray)) (r : ByteArray → ByteArray) (x least : ByteArray) (w : World) (h : AlR w p m M) (hi : AInv M r) (hx : x.size ≤ 1000) (hr : r x = least) :
    Calls Try.prog 29 #[.pointer (some ⟨p, 0, none⟩), .string x, .string least] w fun e w' => e = .returned (.tuple #[]) ∧ ∃ M', AlR w' p m M' ∧ AInv M' r ∧ mkeys M' = mkeys M ∧ Fr (fun b => b = m) w w' := by
  have HA := Lib.hid h
  have HI := Lib.hid hi
  have HZ := Lib.hid hr
  obtain ⟨K, hK⟩ : ∃ K, mkeys M = K := ⟨_, rfl⟩
  have HK := Lib.hid hK
  have HK0 := Lib.hid hK
  have HF : Hid (Fr (fun b => b = m) w w) := Lib.hid (Fr.refl _ _)
  clear h hi hr hK
  go_enter Try.func29, Try.ntmps29
  go_wp2_with fail
  refine wp_scope_jumps 0 (fun a' w' => ∃ (z : ByteArray) (M' : List (ByteArray × ByteArray)) (u6 u7 u8 u9 u10 u11 u12 u13 u14 u15 u16 u17 u18 u19 u20 u21 u22 : Value), a' = { tmps := #[.pointer (some ⟨p, 0, none⟩), .string z, .string least, undef, undef, undef, u6, u7, u8, u9, u10, u11, u12, u13, u14, u15, u16, u17, u18, u19, u20, u21, u22], defers := [] } ∧ Hid (AlR w' p m M') ∧ Hid (AInv M' r) ∧ Hid (mkeys M' = K) ∧ Hid (Fr (fun b => b = m) w w') ∧ Hid (r z = least) ∧ z.size ≤ 1000) (fun a' _ => rankA M (strOf' (a'.tmps.getD 1 undef))) rfl ?_ ?_
  · go_wp2_with fail
    go_step3
    by_cases he : x = least
    · have t1 : (x.toList == least.toList) = true := by rw [he]; simp
      clear he
      go_wp2_with fail
      refine jump_normal ?_
      go_end0
      exact ⟨rfl, M, HA.out, HI.out, HK.out.trans HK0.out.symm, HF.out⟩
    · have t1 : (x.toList == least.toList) = false := by rw [bytesEq]; exact decide_eq_false he
      have hne : x ≠ r x := fun c => he (c.trans HZ.out)
      obtain ⟨hks, v, hv, hlt, hrv⟩ := HI.out.short_keys hne least
      have hvs := name_size (HI.out.ok _ _ hv).2
      have g1 := HA.out.look x (by unfold maxLen; omega)
      rw [hv] at g1
      have hst := HA.out.mp.store (P := Try.prog) keyS Try.underlying50 (a := x) (by unfold okS maxLen; omega) (.string least)
      obtain ⟨w2, hr2, m2, f2, z2⟩ := hst
      have hr3 : (Instr.mapUpdate 50 (.map (some m)) (.string x) (.string least)).run Try.prog w = .ok () w2 := hr2
      rw [mput_map] at m2
      have HA2 : Hid (AlR w2 p m (mput M x least)) := Lib.hid ⟨HA.out.bk.fr f2 HA.out.ne, m2, HA.out.ne⟩
      have hs := HI.out.short hne
      rw [HZ.out] at hs
      have HI2 := Lib.hid hs
      have HK2 : Hid (mkeys (mput M x least) = K) := Lib.hid (hks.trans HK.out)
      have HF2 := Lib.hid (HF.out.trans f2 (fun _ _ e => e))
      have HR2 : Hid (r v = least) := Lib.hid (hrv.trans HZ.out)
      have c0 := HA.out.bk.cell 0
      have HM : Hid (rankA M v < rankA M x) := Lib.hid (by
        have h1 := rankA_lt HI.out.nd ((keys_get HI.out.nd).2 ⟨v, hv⟩) hlt
        unfold rankA at h1 ⊢
        rw [HK.out] at h1
        rw [HK0.out]
        exact h1)
      clear he hne hks hv hlt hrv hr2 m2 f2 z2 hs HK HF HI HZ
      go_wp2_with fail
      go_step3
      exact ⟨rfl, v, _, _, _, _, _, _, _, _, _, _, _, _, _, _, _, _, _, _, rfl, HA2, HI2, HK2, HF2, HR2, by omega⟩
  · rintro a' w1 ⟨z, M1, u6, u7, u8, u9, u10, u11, u12, u13, u14, u15, u16, u17, u18, u19, u20, u21, u22, rfl, HA, HI, HK, HF, HZ, hzs⟩
    by_cases he : z = least
    · have t1 : (z.toList == least.toList) = true := by rw [he]; simp
      clear he
      go_wp2_with fail
      refine jump_normal ?_
      go_end0
      exact ⟨rfl, M1, HA.out, HI.out, HK.out.trans HK0.out.symm, HF.out⟩
    · have t1 : (z.toList == least.toList) = false := by rw [bytesEq]; exact decide_eq_false he
      have hne : z ≠ r z := fun c => he (c.trans HZ.out)
      obtain ⟨hks, v, hv, hlt, hrv⟩ := HI.out.short_keys hne least
      have hvs := name_size (HI.out.ok _ _ hv).2
      have g1 := HA.out.look z (by unfold maxLen; omega)
      rw [hv] at g1
      have hst := HA.out.mp.store (P := Try.prog) keyS Try.underlying50 (a := z) (by unfold okS maxLen; omega) (.string least)
      obtain ⟨w2, hr2, m2, f2, z2⟩ := hst
      have hr3 : (Instr.mapUpdate 50 (.map (some m)) (.string z) (.string least)).run Try.prog w1 = .ok () w2 := hr2
      rw [mput_map] at m2
      have HA2 : Hid (AlR w2 p m (mput M1 z least)) := Lib.hid ⟨HA.out.bk.fr f2 HA.out.ne, m2, HA.out.ne⟩
      have hs := HI.out.short hne
      rw [HZ.out] at hs
      have HI2 := Lib.hid hs
      have HK2 : Hid (mkeys (mput M1 z least) = K) := Lib.hid (hks.trans HK.out)
      have HF2 := Lib.hid (HF.out.trans f2 (fun _ _ e => e))
      have HR2 : Hid (r v = least) := Lib.hid (hrv.trans HZ.out)
      have c0 := HA.out.bk.cell 0
      have HM : Hid (rankA M v < rankA M z) := Lib.hid (by
        have h1 := rankA_lt HI.out.nd ((keys_get HI.out.nd).2 ⟨v, hv⟩) hlt
        unfold rankA at h1 ⊢
        rw [HK.out] at h1
        rw [HK0.out]
        exact h1)
      clear he hne hks hv hlt hrv hr2 m2 f2 z2 hs HK HF HI HZ
      go_wp2_with fail
      go_step3
      exact ⟨rfl, ⟨v, _, _, _, _, _, _, _, _, _, _, _, _, _, _, _, _, _, _, rfl, HA2, HI2, HK2, HF2, HR2, by omega⟩, HM.out⟩
end Go.Proofs.Ytgflfjmlhapplaa

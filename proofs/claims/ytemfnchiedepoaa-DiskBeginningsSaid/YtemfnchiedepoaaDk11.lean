/- Contracts of package disk, at the disk's own level: Replace. -/
import Derived.Test.YtemfnchiedepoaaDk10
namespace Go.Proofs.Ytemfnchiedepoaa
open Go.RowKit Go.MapKept Go.Maps
set_option linter.unusedVariables false
section
variable {w : World} {d : Nat} {B : List Nat} {X : Dk}
theorem replace_at (h : DiskAt w d B X) (n s : ByteArray) (sb : Option Addr) (cap : Nat) (hn : n.size ≤ 1000) (hs : ByIn w sb s) (hsb : ∀ k o, sb = some ⟨k, o, none⟩ → k ∉ B) (hsz : s.size ≤ 5000000) :
    Calls Try.prog 19 #[.pointer (some ⟨d, 0, none⟩), .string n, .slice sb s.size cap] w fun e w' => e = .returned (.int .i64 (stepR X n s).2) ∧ DkPost w d B (stepR X n s).1 w' := by
  have hA := h
  obtain ⟨ok, m, M, rfl, h, hget⟩ := h
  have hl := len_same h.keys ok.rise hget
  have hso := some_same hget n
  have hsum := ok.sum
  have hlen := ok.len
  have hok := stepR_ok ok n s
  have hb := fuse_burn ok.fuse
  have hat := fsum_at ok.rise.nodup n
  rw [sizeAt_eq] at hat
  have hgs := dk_size ok n
  by_cases hd : askN X.down n = 0
  · have hd0 : X.down = false := by unfold askN at hd; cases hx : X.down <;> simp_all
    have hn0 : nameD n = true := by unfold askN at hd; cases hx : nameD n <;> simp_all
    have hfe : ∀ more : Int, (fsum X.L : Int) + more = (fsumBut n X.L + s.size : Nat) → fullN (fsum X.L) more (mget M n).isSome M.length = fullB X n (fsumBut n X.L + s.size) := fun more hm => by
      unfold fullN fullB
      rw [hso, hl, hm]
      congr 1
      · exact decide_eq_decide.2 (by omega)
      · cases mget X.L n <;> rfl
    have e5 : fullB X n (fsumBut n X.L + s.size) = true → stepR X n s = (X, 5) := fun hf => by unfold stepR; rw [hd0, hn0, hf]; rfl
    have e8 : fullB X n (fsumBut n X.L + s.size) = false → X.fuse = 0 → stepR X n s = ({ X with down := true }, 8) := fun hf h0 => by unfold stepR; rw [hd0, hn0, hf, if_pos h0]; rfl
    have e0 : fullB X n (fsumBut n X.L + s.size) = false → ¬ X.fuse = 0 → stepR X n s = (⟨fput X.L n ⟨s, s.size, true⟩, (burn X).fuse, X.down⟩, 0) := fun hf h0 => by unfold stepR; rw [hd0, hn0, hf, if_neg h0, burn_eq, hd0]; rfl
    have fin : ∀ (more : Int) (w' : World) (M' : FM), (fsum X.L : Int) + more = (fsumBut n X.L + s.size : Nat) → DkOk ⟨fput X.L n ⟨s, s.size, true⟩, (burn X).fuse, X.down⟩ → DiskR w' d m M' (fsum X.L + more) (decide (0 ≤ X.fuse)) (fuB (decide (0 ≤ X.fuse)) (max X.fuse 0)) X.down → (∀ k, flOf M' k = if n = k then some ⟨s, s.size, true⟩ else flOf M k) → Fr (fun b => b ∈ dblocks d m M) w w' → (∀ b ∈ dblocks d m M', b ∈ dblocks d m M ∨ w.heap.size ≤ b) → DkPost w d (dblocks d m M) ⟨fput X.L n ⟨s, s.size, true⟩, (burn X).fuse, X.down⟩ w' := fun more w' M' hm ok' k1 k2 k3 k4 => by
      refine ⟨_, ⟨ok', m, M', rfl, ?_, fun k => ?_⟩, k3, k4⟩
      · rw [hb.1, hb.2, hm] at k1
        show DiskR w' d m M' ((fsum (fput X.L n ⟨s, s.size, true⟩) : Nat) : Int) _ _ _
        rw [fsum_put ok.rise]; exact k1
      · show flOf M' k = mget (fput X.L n _) k
        rw [k2, fput_get ok.rise]
        by_cases e : n = k
        · rw [if_pos e, if_pos e]
        · rw [if_neg e, if_neg e]; exact hget k
    cases hg : mget M n with
    | some x =>
      obtain ⟨q, v, g⟩ := x
      have hxl : mget X.L n = some g := by rw [← hget n, hg]; rfl
      have hgf : getF X.L n = g := by unfold getF; rw [hxl]; rfl
      rw [hgf] at hat hgs
      have hm : (fsum X.L : Int) + ((s.size : Int) - g.s.size) = (fsumBut n X.L + s.size : Nat) := by omega
      have hfe1 := hfe _ hm
      rw [hg] at hfe1
      cases hf : fullB X n (fsumBut n X.L + s.size) with
      | true =>
        rw [e5 hf]
        refine (replace_full_old h n s sb cap hn hg (by omega) hsz (by omega) (by omega) hd (hfe1.trans hf)).mono ?_
        rintro e w' ⟨rfl, rfl⟩
        exact ⟨rfl, DkPost.same hA⟩
      | false =>
        by_cases h0 : X.fuse = 0
        · rw [e8 hf h0] at hok ⊢
          refine (replace_stop_old h n s sb cap hn hg (by omega) hsz (by omega) (by omega) hd (hfe1.trans hf) (by rw [fuse_zero]; exact decide_eq_true h0)).mono ?_
          rintro e w' ⟨rfl, k1, k2⟩
          exact ⟨rfl, _, ⟨hok, m, M, rfl, k1, hget⟩, k2.mono (fun b _ e => by rw [e]; simp [dblocks]), fun b hb => .inl hb⟩
        · rw [e0 hf h0] at hok ⊢
          refine (replace_yes_old h n s sb cap hn hg (by omega) hsz (by omega) (by omega) hd hs hsb (hfe1.trans hf) (by have := ok.fuse2; omega) (by rw [fuse_zero]; exact decide_eq_false h0)).mono ?_
          rintro e w' ⟨M', rfl, k1, k2, k3, k4⟩
          exact ⟨rfl, fin _ w' M' hm hok k1 k2 k3 k4⟩
    | none =>
      have hxl : mget X.L n = none := by rw [← hget n, hg]; rfl
      have hgf : getF X.L n = emptyF := by unfold getF; rw [hxl]; rfl
      rw [hgf] at hat
      have hz : emptyF.s.size = 0 := rfl
      have hm : (fsum X.L : Int) + (s.size : Int) = (fsumBut n X.L + s.size : Nat) := by omega
      have hfe1 := hfe _ hm
      rw [hg] at hfe1
      cases hf : fullB X n (fsumBut n X.L + s.size) with
      | true =>
        rw [e5 hf]
        refine (replace_full_new h n s sb cap hn hg hsz (by omega) (by omega) hd (hfe1.trans hf)).mono ?_
        rintro e w' ⟨rfl, rfl⟩
        exact ⟨rfl, DkPost.same hA⟩
      | false =>
        by_cases h0 : X.fuse = 0
        · rw [e8 hf h0] at hok ⊢
          refine (replace_stop_new h n s sb cap hn hg hsz (by omega) (by omega) hd (hfe1.trans hf) (by rw [fuse_zero]; exact decide_eq_true h0)).mono ?_
          rintro e w' ⟨rfl, k1, k2⟩
          exact ⟨rfl, _, ⟨hok, m, M, rfl, k1, hget⟩, k2.mono (fun b _ e => by rw [e]; simp [dblocks]), fun b hb => .inl hb⟩
        · rw [e0 hf h0] at hok ⊢
          refine (replace_yes_new h n s sb cap hn hg hsz (by omega) (by omega) hd hs hsb (hfe1.trans hf) (by have := ok.fuse2; omega) (by rw [fuse_zero]; exact decide_eq_false h0)).mono ?_
          rintro e w' ⟨M', rfl, k1, k2, k3, k4⟩
          exact ⟨rfl, fin _ w' M' hm hok k1 k2 k3 k4⟩
  · have e : stepR X n s = (X, askN X.down n) := by
      unfold stepR askN
      cases hx : X.down
      · cases hy : nameD n
        · rfl
        · exact absurd (by unfold askN; rw [hx, hy]; rfl) hd
      · rfl
    rw [e]
    refine (replace_no h n hn _ _ rfl hd).mono ?_
    rintro e w' ⟨rfl, rfl⟩
    exact ⟨rfl, DkPost.same hA⟩
end
end Go.Proofs.Ytemfnchiedepoaa

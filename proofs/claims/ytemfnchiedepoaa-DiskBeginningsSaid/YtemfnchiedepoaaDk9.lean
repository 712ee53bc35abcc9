/- Contracts of package disk, at the disk's own level: Append, Sync, Replace, Remove, Read, Names, Down, Arm. -/
import Derived.Test.YtemfnchiedepoaaDk8
namespace Go.Proofs.Ytemfnchiedepoaa
open Go.RowKit Go.MapKept Go.Maps
set_option linter.unusedVariables false
theorem fuse_zero (x : Int) : (decide (0 ≤ x) && decide (max x 0 = 0)) = decide (x = 0) := by
  rw [← Bool.decide_and]
  exact decide_eq_decide.2 ⟨fun h => by omega, fun h => by omega⟩
theorem fuse_burn {X : Dk} (h : -1 ≤ X.fuse) : fuB (decide (0 ≤ X.fuse)) (max X.fuse 0) = max (burn X).fuse 0 ∧ decide (0 ≤ X.fuse) = decide (0 ≤ (burn X).fuse) := by
  rw [(burn_fuse X h).1]
  unfold fuB
  constructor
  · by_cases h0 : 0 < X.fuse
    · rw [if_pos (by simp; omega), if_pos h0]; omega
    · rw [if_neg (by simp; omega), if_neg h0]
  · refine decide_eq_decide.2 ?_
    split <;> omega
section
variable {w : World} {d : Nat} {B : List Nat} {X : Dk}
theorem dk_size (ok : DkOk X) (n : ByteArray) : (getF X.L n).s.size ≤ 4194304 := by
  have h1 := fsum_at ok.rise.nodup n
  rw [sizeAt_eq] at h1
  have := ok.sum
  omega
theorem DkPost.same (h : DiskAt w d B X) : DkPost w d B X w := ⟨B, h, Fr.refl _ _, fun b hb => .inl hb⟩
theorem append_at (h : DiskAt w d B X) (n s : ByteArray) (sb : Option Addr) (cap : Nat) (hn : n.size ≤ 1000) (hs : ByIn w sb s) (hsb : ∀ k o, sb = some ⟨k, o, none⟩ → k ∉ B) (hsz : s.size ≤ 5000000) :
    Calls Try.prog 13 #[.pointer (some ⟨d, 0, none⟩), .string n, .slice sb s.size cap] w fun e w' => e = .returned (.int .i64 (stepA X n s).2) ∧ DkPost w d B (stepA X n s).1 w' := by
  have hA := h
  obtain ⟨ok, m, M, rfl, h, hget⟩ := h
  have hl := len_same h.keys ok.rise hget
  have hso : (mget M n).isSome = (mget X.L n).isSome := by rw [← hget n]; cases mget M n <;> rfl
  have hsum := ok.sum
  have hlen := ok.len
  by_cases hd : askN X.down n = 0
  · have hd0 : X.down = false := by unfold askN at hd; cases hx : X.down <;> simp_all
    have hn0 : nameD n = true := by unfold askN at hd; cases hx : nameD n <;> simp_all
    have hfe : fullN (fsum X.L) s.size (mget M n).isSome M.length = fullB X n (fsum X.L + s.size) := by
      unfold fullN fullB
      rw [hso, hl]
      congr 1
      · exact decide_eq_decide.2 (by omega)
      · cases mget X.L n <;> rfl
    cases hf : fullB X n (fsum X.L + s.size) with
    | true =>
      have e : stepA X n s = (X, 5) := by unfold stepA; rw [hd0, hn0, hf]; rfl
      rw [e]
      refine (append_full h n s.size sb cap hn hsz (by omega) (by omega) hd (hfe.trans hf)).mono ?_
      rintro e w' ⟨rfl, rfl⟩
      exact ⟨rfl, DkPost.same hA⟩
    | false =>
      have hb := fuse_burn ok.fuse
      have e : stepA X n s = (⟨fput X.L n { getF X.L n with s := catB (getF X.L n).s s }, (burn X).fuse, X.down || decide (X.fuse = 0)⟩, if X.fuse = 0 then 8 else 0) := by
        unfold stepA
        rw [hd0, hn0, hf]
        by_cases h0 : X.fuse = 0
        · simp [h0, burn]
        · simp [h0, burn_eq, hd0]
      have hok := stepA_ok ok n s
      rw [e] at hok ⊢
      have hfl : (flOf M n).getD emptyF = getF X.L n := by unfold getF; rw [← hget]; rfl
      refine (append_yes h n s sb cap hn hs hsb hsz (by omega) (by rw [hfl]; have := dk_size ok n; omega) (by omega) (by have := ok.fuse2; omega) hd (hfe.trans hf)).mono ?_
      rw [fuse_zero, hfl]
      rintro e w' ⟨M', rfl, k1, k2, k3, k4⟩
      refine ⟨by by_cases h0 : X.fuse = 0 <;> simp [h0], _, ⟨hok, m, M', rfl, ?_, fun k => ?_⟩, k3, k4⟩
      · have e1 : (fsum X.L : Int) + s.size = (fsum (fput X.L n { getF X.L n with s := catB (getF X.L n).s s }) : Nat) := by
          rw [fsum_put ok.rise]
          have := sum_put ok n s
          show _ = ((fsumBut n X.L + (catB (getF X.L n).s s).size : Nat) : Int)
          omega
        rw [e1] at k1
        have k1' : DiskR w' d m M' _ (decide (0 ≤ X.fuse)) (fuB (decide (0 ≤ X.fuse)) (max X.fuse 0)) _ := k1
        rw [hb.1] at k1'
        rw [hb.2] at k1'
        exact k1'
      · show flOf M' k = mget (fput X.L n _) k
        rw [k2, fput_get ok.rise]
        by_cases e : n = k
        · rw [if_pos e, if_pos e]
        · rw [if_neg e, if_neg e]; exact hget k
  · have e : stepA X n s = (X, askN X.down n) := by
      unfold stepA askN
      cases hx : X.down
      · cases hy : nameD n
        · rfl
        · exact absurd (by unfold askN; rw [hx, hy]; rfl) hd
      · rfl
    rw [e]
    refine (append_no h n hn _ _ rfl hd).mono ?_
    rintro e w' ⟨rfl, rfl⟩
    exact ⟨rfl, DkPost.same hA⟩
end
end Go.Proofs.Ytemfnchiedepoaa

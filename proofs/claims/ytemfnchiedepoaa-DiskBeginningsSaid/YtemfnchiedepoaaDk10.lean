/- Contracts of package disk, at the disk's own level: Sync, Remove, Read, Names, Down, Arm. -/
import Derived.Test.YtemfnchiedepoaaDk9
namespace Go.Proofs.Ytemfnchiedepoaa
open Go.RowKit Go.MapKept Go.Maps
set_option linter.unusedVariables false
section
variable {w : World} {d : Nat} {B : List Nat} {X : Dk}
theorem down_at (h : DiskAt w d B X) : Calls Try.prog 14 #[.pointer (some ⟨d, 0, none⟩)] w fun e w' => e = .returned (.bool X.down) ∧ w = w' := by
  obtain ⟨ok, m, M, rfl, h, hget⟩ := h
  exact down_any h
theorem names_at (h : DiskAt w d B X) : Calls Try.prog 20 #[.pointer (some ⟨d, 0, none⟩)] w fun e w' => ∃ v : Value, e = .returned v ∧ MkT w w' v (fnames X.L) := by
  obtain ⟨ok, m, M, rfl, h, hget⟩ := h
  have hl := len_same h.keys ok.rise hget
  exact names_any h (by have := ok.len; omega) (fnames X.L) ok.rise (keys_same h.keys ok.rise hget)
theorem arm_at (h : DiskAt w d B X) (n : Int) (hn : I64 n) : Calls Try.prog 12 #[.pointer (some ⟨d, 0, none⟩), .int .i64 n] w fun e w' => e = .returned (.tuple #[]) ∧ DkPost w d B (armD X n) w' := by
  obtain ⟨ok, m, M, rfl, h, hget⟩ := h
  refine (arm_any h n hn).mono ?_
  rintro e w' ⟨rfl, k1, k2⟩
  unfold I64 at hn
  refine ⟨rfl, _, ⟨armD_ok ok n (by omega), m, M, rfl, ?_, hget⟩, k2.mono (fun b _ e => by rw [e]; simp [dblocks]), fun b hb => .inl hb⟩
  have e1 : decide (0 ≤ (armD X n).fuse) = decide (0 ≤ n) := decide_eq_decide.2 (by unfold armD; simp only []; split <;> omega)
  have e2 : max (armD X n).fuse 0 = max n 0 := by unfold armD; simp only []; split <;> omega
  rw [e1, e2]
  exact k1
theorem some_same {M : FM} (hget : ∀ n, (mget M n).map (·.2.2) = mget X.L n) (n : ByteArray) : (mget M n).isSome = (mget X.L n).isSome := by rw [← hget n]; cases mget M n <;> rfl
theorem read_at (h : DiskAt w d B X) (n : ByteArray) (hn : n.size ≤ 1000) :
    Calls Try.prog 15 #[.pointer (some ⟨d, 0, none⟩), .string n] w fun e w' => ∃ u, e = .returned (.tuple #[u, .int .i64 (readD X n).2]) ∧ ByMk w w' u (readD X n).1 := by
  obtain ⟨ok, m, M, rfl, h, hget⟩ := h
  have hso := some_same hget n
  by_cases hd : foundN X.down n (mget M n).isSome = 0
  · have hd0 : X.down = false := by unfold foundN at hd; cases hx : X.down <;> simp_all
    have hn0 : nameD n = true := by unfold foundN at hd; cases hx : nameD n <;> simp_all
    cases hg : mget M n with
    | none => rw [hg] at hd; unfold foundN at hd; rw [hd0, hn0] at hd; cases hd
    | some x =>
      obtain ⟨q, v, g⟩ := x
      have hxl : mget X.L n = some g := by rw [← hget n, hg]; rfl
      have e : readD X n = (g.s, 0) := by unfold readD; rw [hd0, hn0, hxl]; rfl
      rw [e]
      have hgs : g.s.size ≤ 4194304 := by have := dk_size ok n; unfold getF at this; rw [hxl] at this; exact this
      rw [hg] at hd
      exact read_yes h n hn hg hd (by omega)
  · have e : readD X n = (⟨#[]⟩, foundN X.down n (mget M n).isSome) := by
      rw [hso]
      rw [hso] at hd
      unfold readD foundN
      cases hx : X.down
      · cases hy : nameD n
        · rfl
        · cases hz : mget X.L n
          · rfl
          · exact absurd (by unfold foundN; rw [hx, hy, hz]; rfl) hd
      · rfl
    rw [e]
    refine (read_no h n hn _ rfl hd).mono ?_
    rintro e w' ⟨rfl, rfl⟩
    exact ⟨_, rfl, ByMk.nil w⟩
theorem sync_at (h : DiskAt w d B X) (n : ByteArray) (hn : n.size ≤ 1000) :
    Calls Try.prog 17 #[.pointer (some ⟨d, 0, none⟩), .string n] w fun e w' => e = .returned (.int .i64 (stepS X n).2) ∧ DkPost w d B (stepS X n).1 w' := by
  have hA := h
  obtain ⟨ok, m, M, rfl, h, hget⟩ := h
  have hso := some_same hget n
  have hok := stepS_ok ok n
  by_cases hd : foundN X.down n (mget M n).isSome = 0
  · have hd0 : X.down = false := by unfold foundN at hd; cases hx : X.down <;> simp_all
    have hn0 : nameD n = true := by unfold foundN at hd; cases hx : nameD n <;> simp_all
    cases hg : mget M n with
    | none => rw [hg] at hd; unfold foundN at hd; rw [hd0, hn0] at hd; cases hd
    | some x =>
      obtain ⟨q, v, g⟩ := x
      have hxl : mget X.L n = some g := by rw [← hget n, hg]; rfl
      have hgf : getF X.L n = g := by unfold getF; rw [hxl]; rfl
      have hgs : g.s.size ≤ 4194304 := by have := dk_size ok n; rw [hgf] at this; exact this
      rw [hg] at hd
      by_cases h0 : X.fuse = 0
      · have e : stepS X n = ({ X with down := true }, 8) := by unfold stepS; rw [hd0, hn0, hxl, if_pos h0]; rfl
        rw [e] at hok ⊢
        refine (sync_stop h n hn hg hd (by rw [fuse_zero]; exact decide_eq_true h0)).mono ?_
        rintro e w' ⟨rfl, k1, k2⟩
        exact ⟨rfl, _, ⟨hok, m, M, rfl, k1, hget⟩, k2.mono (fun b _ e => by rw [e]; simp [dblocks]), fun b hb => .inl hb⟩
      · have e : stepS X n = (⟨fput X.L n ⟨g.s, g.s.size, true⟩, (burn X).fuse, X.down⟩, 0) := by unfold stepS; rw [hd0, hn0, hxl, if_neg h0, hgf, burn_eq, hd0]; rfl
        rw [e] at hok ⊢
        have hb := fuse_burn ok.fuse
        refine (sync_yes h n hn hg hd (by have := ok.fuse2; omega) (by rw [fuse_zero]; exact decide_eq_false h0) (by omega)).mono ?_
        rintro e w' ⟨rfl, k1, k2, k3⟩
        refine ⟨rfl, _, ⟨hok, m, _, rfl, ?_, fun k => ?_⟩, k2, k3⟩
        · rw [hb.1, hb.2] at k1
          have e1 : fsum (fput X.L n ⟨g.s, g.s.size, true⟩) = fsum X.L := by
            rw [fsum_put ok.rise]
            have := fsum_at ok.rise.nodup n
            rw [sizeAt_eq, hgf] at this
            exact this.symm
          show DiskR w' d m _ ((fsum (fput X.L n ⟨g.s, g.s.size, true⟩) : Nat) : Int) _ _ _
          rw [e1]; exact k1
        · show _ = mget (fput X.L n _) k
          rw [get_put, fput_get ok.rise]
          by_cases e : n = k
          · rw [if_pos e, if_pos e]; rfl
          · rw [if_neg e, if_neg e]; exact hget k
  · have e : stepS X n = (X, foundN X.down n (mget M n).isSome) := by
      rw [hso]
      rw [hso] at hd
      unfold stepS foundN
      cases hx : X.down
      · cases hy : nameD n
        · rfl
        · cases hz : mget X.L n
          · rfl
          · exact absurd (by unfold foundN; rw [hx, hy, hz]; rfl) hd
      · rfl
    rw [e]
    refine (sync_no h n hn _ rfl hd).mono ?_
    rintro e w' ⟨rfl, rfl⟩
    exact ⟨rfl, DkPost.same hA⟩
theorem remove_at (h : DiskAt w d B X) (n : ByteArray) (hn : n.size ≤ 1000) :
    Calls Try.prog 36 #[.pointer (some ⟨d, 0, none⟩), .string n] w fun e w' => e = .returned (.int .i64 (stepD X n).2) ∧ DkPost w d B (stepD X n).1 w' := by
  have hA := h
  obtain ⟨ok, m, M, rfl, h, hget⟩ := h
  have hso := some_same hget n
  have hok := stepD_ok ok n
  by_cases hd : foundN X.down n (mget M n).isSome = 0
  · have hd0 : X.down = false := by unfold foundN at hd; cases hx : X.down <;> simp_all
    have hn0 : nameD n = true := by unfold foundN at hd; cases hx : nameD n <;> simp_all
    cases hg : mget M n with
    | none => rw [hg] at hd; unfold foundN at hd; rw [hd0, hn0] at hd; cases hd
    | some x =>
      obtain ⟨q, v, g⟩ := x
      have hxl : mget X.L n = some g := by rw [← hget n, hg]; rfl
      have hgf : getF X.L n = g := by unfold getF; rw [hxl]; rfl
      have hgs : g.s.size ≤ 4194304 := by have := dk_size ok n; rw [hgf] at this; exact this
      rw [hg] at hd
      by_cases h0 : X.fuse = 0
      · have e : stepD X n = ({ X with down := true }, 8) := by unfold stepD; rw [hd0, hn0, hxl, if_pos h0]; rfl
        rw [e] at hok ⊢
        refine (remove_stop h n hn hg hd (by rw [fuse_zero]; exact decide_eq_true h0)).mono ?_
        rintro e w' ⟨rfl, k1, k2⟩
        exact ⟨rfl, _, ⟨hok, m, M, rfl, k1, hget⟩, k2.mono (fun b _ e => by rw [e]; simp [dblocks]), fun b hb => .inl hb⟩
      · have e : stepD X n = (⟨fdel X.L n, (burn X).fuse, X.down⟩, 0) := by unfold stepD; rw [hd0, hn0, hxl, if_neg h0, burn_eq, hd0]; rfl
        rw [e] at hok ⊢
        have hb := fuse_burn ok.fuse
        have hsum := ok.sum
        refine (remove_yes h n hn hg hd (by have := ok.fuse2; omega) (by rw [fuse_zero]; exact decide_eq_false h0) (by omega) (by omega)).mono ?_
        rintro e w' ⟨rfl, k1, k2, k3⟩
        refine ⟨rfl, _, ⟨hok, m, _, rfl, ?_, fun k => ?_⟩, k2, fun b hb => .inl (k3 b hb)⟩
        · rw [hb.1, hb.2] at k1
          have e1 : ((fsum (fdel X.L n) : Nat) : Int) = (fsum X.L : Int) - g.s.size := by
            rw [fsum_del]
            have := fsum_at ok.rise.nodup n
            rw [sizeAt_eq, hgf] at this
            omega
          show DiskR w' d m _ ((fsum (fdel X.L n) : Nat) : Int) _ _ _
          rw [e1]; exact k1
        · show _ = mget (fdel X.L n) k
          rw [get_del h.keys, fdel_get]
          by_cases e : n = k
          · rw [if_pos e, if_pos e]; rfl
          · rw [if_neg e, if_neg e]; exact hget k
  · have e : stepD X n = (X, foundN X.down n (mget M n).isSome) := by
      rw [hso]
      rw [hso] at hd
      unfold stepD foundN
      cases hx : X.down
      · cases hy : nameD n
        · rfl
        · cases hz : mget X.L n
          · rfl
          · exact absurd (by unfold foundN; rw [hx, hy, hz]; rfl) hd
      · rfl
    rw [e]
    refine (remove_no h n hn _ rfl hd).mono ?_
    rintro e w' ⟨rfl, rfl⟩
    exact ⟨rfl, DkPost.same hA⟩
end
end Go.Proofs.Ytemfnchiedepoaa

/- A disk of the call's own, and what calls of it leave. An event's bytes: event.Encode. Frames: sum, size, Seal. An event's bytes: putNumber, Encode. event.Encode. event.reader: one, text, number. event.reader: text, number. -/
import Derived.Test.YtkofcegdoilaeaaGreatDoorPk11
import Derived.Test.YtkofcegdoilaeaaGreatDoorPk3
import Derived.Test.YtkofcegdoilaeaaGreatDoorPk9
import Derived.Lib.AppendStr
import Derived.Laws.BitsLemmas
import Derived.Laws.MakeOwn
namespace Go.Proofs.YtkofcegdoilaeaaGreatDoor
open Go.RowKit Go.MapKept Go.Maps
set_option linter.unusedVariables false
/-- a disk that was made since w0 -/
def DkOwn (w0 w : World) (d : Nat) (X : Dk) : Prop := ∃ B, DiskAt w d B X ∧ (∀ b ∈ B, w0.heap.size ≤ b) ∧ Below w0.heap.size w0 w
theorem DkOwn.bl {w0 w : World} {d : Nat} {X : Dk} (h : DkOwn w0 w d X) : Below w0.heap.size w0 w := h.choose_spec.2.2
theorem DkOwn.ok {w0 w : World} {d : Nat} {X : Dk} (h : DkOwn w0 w d X) : DkOk X := h.choose_spec.1.ok
theorem DkOwn.bel {w0 w w' : World} {d : Nat} {X : Dk} (h : DkOwn w0 w d X) (hb : Below w.heap.size w w') : DkOwn w0 w' d X := by
  obtain ⟨B, h1, h2, h3⟩ := h
  exact ⟨B, h1.bel hb, h2, h3.trans (hb.mono h3.size)⟩
theorem DkOwn.post {w0 w w' : World} {d : Nat} {B : List Nat} {X' : Dk} (h2 : ∀ b ∈ B, w0.heap.size ≤ b) (h3 : Below w0.heap.size w0 w) (hp : DkPost w d B X' w') : DkOwn w0 w' d X' := by
  obtain ⟨B', k1, k2, k3⟩ := hp
  refine ⟨B', k1, fun b hb => ?_, h3.trans (k2.below h3.size h2)⟩
  rcases k3 b hb with h | h
  · exact h2 b h
  · exact Nat.le_trans h3.size h
theorem new_own (w0 w : World) (hb : Below w0.heap.size w0 w) :
    Calls Tryz.prog 6 #[] w fun e w' => ∃ d, e = .returned (.pointer (some ⟨d, 0, none⟩)) ∧ DkOwn w0 w' d newD := by
  refine (new_any w).mono ?_
  rintro e w' ⟨d, rfl, h1, h2, h3⟩
  have := hb.size
  exact ⟨d, rfl, [d, w.heap.size], h1, fun b hb => by simp at hb; omega, hb.trans (h3.mono hb.size)⟩
section
variable {w0 w w' : World} {d : Nat} {X : Dk}
theorem append_own (h : DkOwn w0 w d X) (hb : Below w.heap.size w w') (n s : ByteArray) (sb : Option Addr) (cap : Nat) (hn : n.size ≤ 1000) (hs : ByIn w' sb s) (hsb : ∀ k o, sb = some ⟨k, o, none⟩ → w.heap.size ≤ k) (hsz : s.size ≤ 5000000) (ln : Nat) (hln : ln = s.size) :
    Calls Tryz.prog 35 #[.pointer (some ⟨d, 0, none⟩), .string n, .slice sb ln cap] w' fun e w'' => e = .returned (.int .i64 (stepA X n s).2) ∧ DkOwn w0 w'' d (stepA X n s).1 := by
  subst hln
  obtain ⟨B, h1, h2, h3⟩ := h
  refine (append_at (h1.bel hb) n s sb cap hn hs (fun k o hk hB => by have := h1.lt k hB; have := hsb k o hk; omega) hsz).mono ?_
  rintro e w'' ⟨rfl, k⟩
  exact ⟨rfl, .post h2 (h3.trans (hb.mono h3.size)) k⟩
theorem replace_own (h : DkOwn w0 w d X) (hb : Below w.heap.size w w') (n s : ByteArray) (sb : Option Addr) (cap : Nat) (hn : n.size ≤ 1000) (hs : ByIn w' sb s) (hsb : ∀ k o, sb = some ⟨k, o, none⟩ → w.heap.size ≤ k) (hsz : s.size ≤ 5000000) (ln : Nat) (hln : ln = s.size) :
    Calls Tryz.prog 27 #[.pointer (some ⟨d, 0, none⟩), .string n, .slice sb ln cap] w' fun e w'' => e = .returned (.int .i64 (stepR X n s).2) ∧ DkOwn w0 w'' d (stepR X n s).1 := by
  subst hln
  obtain ⟨B, h1, h2, h3⟩ := h
  refine (replace_at (h1.bel hb) n s sb cap hn hs (fun k o hk hB => by have := h1.lt k hB; have := hsb k o hk; omega) hsz).mono ?_
  rintro e w'' ⟨rfl, k⟩
  exact ⟨rfl, .post h2 (h3.trans (hb.mono h3.size)) k⟩
theorem sync_own (h : DkOwn w0 w d X) (n : ByteArray) (hn : n.size ≤ 1000) :
    Calls Tryz.prog 28 #[.pointer (some ⟨d, 0, none⟩), .string n] w fun e w' => e = .returned (.int .i64 (stepS X n).2) ∧ DkOwn w0 w' d (stepS X n).1 := by
  obtain ⟨B, h1, h2, h3⟩ := h
  refine (sync_at h1 n hn).mono ?_
  rintro e w'' ⟨rfl, k⟩
  exact ⟨rfl, .post h2 h3 k⟩
theorem down_own (h : DkOwn w0 w d X) : Calls Tryz.prog 22 #[.pointer (some ⟨d, 0, none⟩)] w fun e w' => e = .returned (.bool X.down) ∧ w = w' := by
  obtain ⟨B, h1, h2, h3⟩ := h
  exact down_at h1
theorem names_own (h : DkOwn w0 w d X) : Calls Tryz.prog 20 #[.pointer (some ⟨d, 0, none⟩)] w fun e w' => ∃ v : Value, e = .returned v ∧ MkT w w' v (fnames X.L) ∧ DkOwn w0 w' d X := by
  have h' := h
  obtain ⟨B, h1, h2, h3⟩ := h
  refine (names_at h1).mono ?_
  rintro e w' ⟨v, rfl, k⟩
  exact ⟨v, rfl, k, h'.bel k.bl⟩
theorem read_own (h : DkOwn w0 w d X) (n : ByteArray) (hn : n.size ≤ 1000) :
    Calls Tryz.prog 24 #[.pointer (some ⟨d, 0, none⟩), .string n] w fun e w' => ∃ u, e = .returned (.tuple #[u, .int .i64 (readD X n).2]) ∧ ByMk w w' u (readD X n).1 ∧ DkOwn w0 w' d X := by
  have h' := h
  obtain ⟨B, h1, h2, h3⟩ := h
  refine (read_at h1 n hn).mono ?_
  rintro e w' ⟨u, rfl, k⟩
  exact ⟨u, rfl, k, h'.bel k.bl⟩
theorem IntIn.old {W : World} {b : Option Addr} {l : List Int} (h : IntIn W b l) (w : World) : l = [] ∨ ∀ k o, b = some ⟨k, o, none⟩ → k < W.heap.size ∨ w.heap.size ≤ k := by
  rcases h with h | ⟨B, off, hb, hl, _⟩
  · exact .inl (List.map_eq_nil_iff.1 h)
  · refine .inr fun k o hk => .inl ?_
    rw [hb] at hk
    cases hk
    exact hl
/-- the keep of a crash lies where the disk doesn't: in what was there ahead of it, or in what came since -/
theorem crash_own (h : DkOwn w0 w d X) (hb : Below w.heap.size w w') (keep : List Int) (hk : ∀ x ∈ keep, I64 x) (hkl : keep.length ≤ 1000) (kb : Option Addr) (kc : Nat) (hin : IntIn w' kb keep) (hkb : keep = [] ∨ ∀ k o, kb = some ⟨k, o, none⟩ → k < w0.heap.size ∨ w.heap.size ≤ k) (ln : Nat) (hln : ln = keep.length) :
    Calls Tryz.prog 12 #[.pointer (some ⟨d, 0, none⟩), .slice kb ln kc] w' fun e w'' => e = .returned (.tuple #[]) ∧ DkOwn w0 w'' d (crashD X keep) := by
  subst hln
  obtain ⟨B, h1, h2, h3⟩ := h
  refine (crash_at (h1.bel hb) keep hk hkl kb kc hin (hkb.imp id fun hkb k o hk hB => by have := h1.lt k hB; have := h2 k hB; have := hkb k o hk; omega)).mono ?_
  rintro e w'' ⟨rfl, k⟩
  exact ⟨rfl, .post h2 (h3.trans (hb.mono h3.size)) k⟩
end
end Go.Proofs.YtkofcegdoilaeaaGreatDoor
namespace Go.Proofs.YtkofcegdoilaeaaGreatDoor
open Go.RowKit Go.MapKept Go.Maps
set_option linter.unusedVariables false
set_option linter.unusedSimpArgs false
namespace Tr
open Es Tl Rk
/-- a byte in memory -/
def bC (c : UInt8) : List Value := [byV c]
theorem bLen (c : UInt8) : (bC c).length = 1 := rfl
theorem bOne (c : UInt8) : ∀ u ∈ bC c, u.oneCell' = true := fun u hu => by
  simp only [bC, List.mem_cons, List.not_mem_nil, or_false] at hu
  subst hu; rfl
theorem byV_of (n : Nat) (h : n < 256) : byV (UInt8.ofNat n) = .int .u8 (n : Int) := by
  unfold byV
  rw [UInt8.toNat_ofNat', Nat.mod_eq_of_lt h]
/-- bytes that a call is making -/
abbrev MkB (w0 w : World) (v : Value) (xs : Bs) : Prop := MkG 5 1 bC w0 w v xs
theorem own_up {w : World} {e : TypeId} {sz base n : Nat} {v : Value} {xs : List Value} (h : w.ownsRow 0 e sz v n xs) (hb : ∀ b, v.ownBlock = some b → base ≤ b) : w.ownsRow base e sz v n xs := by
  refine ⟨h.1, ?_⟩
  rcases h.2 with h | ⟨g, cap, cur, rfl, _, r⟩
  · exact .inl h
  · exact .inr ⟨g, cap, cur, rfl, hb g rfl, r⟩
theorem own_down {w : World} {e : TypeId} {sz base n : Nat} {v : Value} {xs : List Value} (h : w.ownsRow base e sz v n xs) : w.ownsRow 0 e sz v n xs ∧ ∀ b, v.ownBlock = some b → base ≤ b := by
  rcases h with ⟨h1, ⟨rfl, h0⟩ | ⟨g, cap, cur, rfl, hb, r⟩⟩
  · exact ⟨⟨h1, .inl ⟨rfl, h0⟩⟩, fun b hb => by cases hb⟩
  · refine ⟨⟨h1, .inr ⟨g, cap, cur, rfl, Nat.zero_le _, r⟩⟩, fun b hb' => ?_⟩
    have : g = b := by simpa [Value.ownBlock] using hb'
    omega
theorem bC_flat (xs : Bs) : xs.flatMap bC = xs.map byV := by
  induction xs with
  | nil => rfl
  | cons x xs ih => simp [bC, ih]
theorem bC_str (s : ByteArray) : Lib.strCells s = s.data.toList.flatMap bC := by rw [bC_flat]; rfl
/-- behind an append of a text -/
theorem MkB.text {w0 w w' : World} {v v' : Value} {xs : Bs} {s : ByteArray} (h : MkB w0 w v xs) (ho : w'.ownsRow w0.heap.size 5 1 v' (xs.length + s.size) (xs.flatMap bC ++ Lib.strCells s)) (hg : w.grownBy w' v.ownBlock) : MkB w0 w' v' (xs ++ s.data.toList) := by
  obtain ⟨h1, h2⟩ := own_down ho
  refine ⟨?_, h2, h.bl.trans ((Fr.of_grown hg).below h.bl.size (fun b hb => h.nw b hb))⟩
  rw [List.length_append, len_data, List.flatMap_append, ← bC_str]
  exact h1
def txB (s : ByteArray) : Bs := UInt8.ofNat s.size :: s.data.toList
def nmB (n : Nat) : Bs := if n < 128 then [UInt8.ofNat n] else [UInt8.ofNat (n % 128 + 128), UInt8.ofNat (n / 128)]
def encB (e : Ev) : Bs := [UInt8.ofNat e.kind.toNat] ++ txB e.src ++ nmB e.num.toNat ++ nmB e.at_.toNat ++ txB e.per ++ txB e.item ++ nmB e.val.toNat ++ txB e.txt
theorem txB_len (s : ByteArray) : (txB s).length = s.size + 1 := by simp [txB]
theorem nmB_len (n : Nat) : (nmB n).length ≤ 2 := by unfold nmB; split <;> simp
theorem tx_app (xs : Bs) (s : ByteArray) : (xs ++ [UInt8.ofNat s.size]) ++ s.data.toList = xs ++ txB s := by simp [txB]
set_option maxRecDepth 100000 in
set_option maxHeartbeats 2000000 in
theorem putText_any {w0 w : World} {v : Value} {xs : Bs} (s : ByteArray) (h : MkB w0 w v xs) (hs : s.size ≤ 200) (hl : xs.length ≤ 1000) :
    Calls Tryz.prog 66 #[v, .string s] w fun e w' => ∃ v', e = .returned v' ∧ MkB w0 w' v' (xs ++ txB s) := by
  obtain ⟨iB, hiB, hzB, hsB, hbB⟩ := tinfo infoByte
  have q1 : IntKind.u8.wrap (s.size : Int) = (s.size : Int) := by rw [IntKind.wrap_u8]; omega
  have q2 : ¬ 9223372036854775807 < (s.size : Int) := by omega
  have HM := Lib.hid (h.alloc (.cells #[.int .u8 (s.size : Int)] 5))
  have HIN : Hid (InW (w.alloc (.cells #[.int .u8 (s.size : Int)] 5)) (some ⟨w.heap.size, 0, none⟩) 1 ([UInt8.ofNat s.size].map bC)) := Lib.hid (by
    have hb := Bk.new w (bC (UInt8.ofNat s.size)) 5
    unfold bC at hb
    rw [byV_of _ (by omega)] at hb
    exact inw_one (f := bC) (by unfold bC; rw [byV_of _ (by omega)]; exact hb))
  have HLN : Hid (xs.length + [UInt8.ofNat s.size].length ≤ 1000000) := Lib.hid (by simp; omega)
  clear h
  go_enter Tryz.func66, Tryz.ntmps66
  go_upto_region 2 with (at_builtin; refine wpList_append_m bLen bOne _ rfl _ _ _ rfl 5 iB _ 1 Tryz.underlying22 hiB hzB hsB hbB rfl (by decide) (by omega) v xs [UInt8.ofNat s.size] rfl HM.out.tx (some ⟨w.heap.size, 0, none⟩) 1 1 rfl rfl HIN.out HLN.out ?_; intro v5 w5 o5 f5 h5)
  have HM5 := Lib.hid (HM.out.more o5 f5 h5)
  clear o5 f5 h5 HM HIN HLN
  obtain ⟨ys, hys⟩ : ∃ ys, xs ++ [UInt8.ofNat s.size] = ys := ⟨_, rfl⟩
  have hyl : ys.length ≤ 1001 := by rw [← hys]; simp; omega
  have HTX : Hid (ys ++ s.data.toList = xs ++ txB s) := Lib.hid (by rw [← hys]; exact tx_app xs s)
  rw [hys] at HM5
  have HOW := Lib.hid (own_up HM5.out.tx HM5.out.nw)
  obtain ⟨m, hm⟩ : ∃ m, ys.length = m := ⟨_, rfl⟩
  rw [hm] at HOW hyl
  have HMM := Lib.hid hm
  clear hys hm
  go_wp2_with (at_builtin; refine Lib.wpList_append_own_string _ rfl _ _ 22 9 rfl w0.heap.size 5 iB Tryz.underlying22 Tryz.underlying9 hiB hzB hsB hbB v5 m (ys.flatMap bC) rfl HOW.out s rfl ?c3 ?c4 ?c5 ?_)
  case c3 => unfold maxLen; omega
  case c4 => omega
  case c5 => exact HM5.out.bl.size
  intro v6 w6 o6 g6 _
  have HM6 := Lib.hid (MkB.text HM5.out (by rw [HMM.out]; exact o6) g6)
  rw [HTX.out] at HM6
  clear o6 g6 HM5 HOW
  go_wp2_with fail
  go_ret
  exact ⟨_, rfl, HM6.out⟩
end Tr
end Go.Proofs.YtkofcegdoilaeaaGreatDoor
namespace Go.Proofs.YtkofcegdoilaeaaGreatDoor
open Go.RowKit Go.MapKept Go.Maps
set_option linter.unusedVariables false
set_option linter.unusedSimpArgs false
namespace Tr
open Es Tl Rk
abbrev BIn (w : World) (b : Option Addr) (xs : Bs) : Prop := InW w b 1 (xs.map bC)
theorem wrap_u32 {n : Int} (h0 : 0 ≤ n) (h1 : n < 4294967296) : IntKind.u32.wrap n = n := by rw [IntKind.wrap_u32]; omega
theorem wraps_u32 (n : Int) (h0 : 0 ≤ n) (h1 : n < 2 ^ 32) : IntKind.u32.wrap n = n := by rw [IntKind.wrap_u32]; omega
set_option maxRecDepth 100000 in
set_option maxHeartbeats 2000000 in
theorem sum_any (b : Option Addr) (cap : Nat) (xs : Bs) (w : World) (hX : BIn w b xs) (hn : xs.length ≤ 100000) :
    Calls Tryz.prog 68 #[.slice b xs.length cap] w fun e w' => e = .returned (.int .u32 (sumN xs : Nat)) ∧ w' = w := by
  have HX := Lib.hid hX
  obtain ⟨n, hnl⟩ : ∃ n, xs.length = n := ⟨_, rfl⟩
  rw [hnl] at hn ⊢
  have HN := Lib.hid hnl
  have HR : Hid (∀ k : Nat, (sumP (xs.take k)).1 < 65521 ∧ (sumP (xs.take k)).2 < 65521) := Lib.hid (fun k => sumP_lt _)
  clear hX hnl
  go_enter Tryz.func68, Tryz.ntmps68
  go_wp2_with fail
  go_loop [3, 4, 9] (fun x y i => ∃ k : Nat, k ≤ n ∧ i = .int .i64 k ∧ x = .int .u32 ((sumP (xs.take k)).1 : Nat) ∧ y = .int .u32 ((sumP (xs.take k)).2 : Nat)) (fun _ _ i => n - (intOf i).toNat)
  case atStart => exact ⟨0, by omega, rfl, rfl, rfl⟩
  case round =>
    obtain ⟨k, hk, rfl, rfl, rfl⟩ := hrel
    have hr := HR.out k
    by_cases hlt : k < n
    · obtain ⟨c, hc⟩ : ∃ c, xs[k]? = some c := ⟨xs[k]'(by have := HN.out; omega), List.getElem?_eq_getElem _⟩
      obtain ⟨B, off, rfl, hB, hcell⟩ := inw_at (f := byV) HX.out hc
      have HT := Lib.hid (sumP_take hc)
      unfold byV at hcell
      obtain ⟨z, hz⟩ : ∃ z : Nat, c.toNat = z := ⟨_, rfl⟩
      have hz256 : z < 256 := hz ▸ c.toNat_lt
      unfold sumS at HT
      rw [hz] at HT hcell
      generalize (sumP (xs.take k)).1 = x at HT hr ⊢
      generalize (sumP (xs.take k)).2 = y at HT hr ⊢
      obtain ⟨x2, hx2⟩ : ∃ x2, (x + z) % 65521 = x2 := ⟨_, rfl⟩
      obtain ⟨y2, hy2⟩ : ∃ y2, (y + x2) % 65521 = y2 := ⟨_, rfl⟩
      simp only [hx2, hy2] at HT
      have r0 : IntKind.u32.wrap (z : Int) = (z : Int) := wrap_u32 (by omega) (by omega)
      have r1 : IntKind.u32.wrap ((x : Int) + (z : Int)) = (x : Int) + (z : Int) := wrap_u32 (by omega) (by omega)
      have r2 : ((x : Int) + (z : Int)).tmod 65521 = (x2 : Int) := by rw [Int.tmod_eq_emod_of_nonneg (by omega)]; omega
      have r3 : IntKind.u32.wrap (x2 : Int) = (x2 : Int) := wrap_u32 (by omega) (by omega)
      have r4 : IntKind.u32.wrap ((y : Int) + (x2 : Int)) = (y : Int) + (x2 : Int) := wrap_u32 (by omega) (by omega)
      have r5 : ((y : Int) + (x2 : Int)).tmod 65521 = (y2 : Int) := by rw [Int.tmod_eq_emod_of_nonneg (by omega)]; omega
      have r6 : IntKind.u32.wrap (y2 : Int) = (y2 : Int) := wrap_u32 (by omega) (by omega)
      have hi0 : (0 : Int) ≤ (k : Int) := by omega
      have hi1 : (k : Int) < (n : Int) := by omega
      clear hx2 hy2 hc hr
      go_wp2_with fail
      go_roundw
      case rel => exact ⟨k + 1, by omega, by go_num, by rw [HT.out], by rw [HT.out]⟩
      case measure => simp [intOf]; omega
    · have hkn : k = n := by omega
      have HE : Hid (sumN xs = (sumP (xs.take k)).2 * 65536 + (sumP (xs.take k)).1) := Lib.hid (by rw [List.take_of_length_le (by have := HN.out; omega)]; rfl)
      generalize (sumP (xs.take k)).1 = x at HE hr ⊢
      generalize (sumP (xs.take k)).2 = y at HE hr ⊢
      have r1 : IntKind.u32.wrap ((y : Int) * 65536) = (y : Int) * 65536 := wrap_u32 (by omega) (by omega)
      have r2 : bits .or .u32 ((y : Int) * 65536) (x : Int) = (y : Int) * 65536 + (x : Int) := bits_join .u32 32 (by decide) wraps_u32 16 _ _ (by omega) (by omega) (by omega) (by omega) (by omega) (by omega)
      go_wp2_with fail
      go_ret
      exact ⟨by rw [HE.out]; simp, rfl⟩
end Tr
end Go.Proofs.YtkofcegdoilaeaaGreatDoor
namespace Go.Proofs.YtkofcegdoilaeaaGreatDoor
open Go.RowKit Go.MapKept Go.Maps
set_option linter.unusedVariables false
set_option linter.unusedSimpArgs false
namespace Tr
open Es Tl Rk
theorem wraps_i64 (n : Int) (h0 : 0 ≤ n) (h1 : n < 2 ^ 62) : IntKind.i64.wrap n = n := by rw [IntKind.wrap_i64]; omega
theorem or_128 (p : Nat) (hp : p < 128) : bits .or .u8 (p : Int) 128 = ((p + 128 : Nat) : Int) := by
  have h := (bits_nat .u8 8 (by decide) wraps_u8 p 128 (by omega) (by decide)).2
  rw [Nat.or_comm, show (128 : Nat) = 2 ^ 7 * 1 from rfl, ← Nat.two_pow_add_eq_or_of_lt (by omega)] at h
  refine (show bits .or .u8 (p : Int) 128 = _ from h).trans ?_
  norm_cast
  omega
/-- bytes of a block of one -/
theorem MkB.one (w : World) (c : UInt8) : MkB w (w.alloc (.cells (bC c).toArray 5)) (.slice (some ⟨w.heap.size, 0, none⟩) 1 1) [c] :=
  ⟨row_of_bk (Bk.new w (bC c) 5) rfl (Nat.le_refl _) (by unfold maxLen; omega) rfl, own_at (Nat.le_refl _), (Below.refl _ _).alloc (Nat.le_refl _) _⟩
/-- one byte more -/
theorem in_byte (w : World) (z : Nat) (hz : z < 256) : InW (w.alloc (.cells #[.int .u8 (z : Int)] 5)) (some ⟨w.heap.size, 0, none⟩) 1 ([UInt8.ofNat z].map bC) := by
  have hb := Bk.new w (bC (UInt8.ofNat z)) 5
  unfold bC at hb
  rw [byV_of _ hz] at hb
  exact inw_one (f := bC) (by unfold bC; rw [byV_of _ hz]; exact hb)
set_option maxRecDepth 100000 in
set_option maxHeartbeats 2000000 in
theorem putNumber_any {w0 w : World} {v : Value} {xs : Bs} (n : Nat) (h : MkB w0 w v xs) (hn : n ≤ 10000) (hl : xs.length ≤ 1000) :
    Calls Tryz.prog 67 #[v, .int .i64 n] w fun e w' => ∃ v', e = .returned v' ∧ MkB w0 w' v' (xs ++ nmB n) := by
  obtain ⟨iB, hiB, hzB, hsB, hbB⟩ := tinfo infoByte
  have HM := Lib.hid h
  have HX := Lib.hid hl
  clear h hl
  go_enter Tryz.func67, Tryz.ntmps67
  go_wp2_with fail
  go_loopw [0, 1] (fun u c wr => ∃ (m : Nat) (d : Bs), c = .int .i64 m ∧ Hid (MkB w0 wr u (xs ++ d)) ∧ Hid ((d = [] ∧ m = n) ∨ (128 ≤ n ∧ d = [UInt8.ofNat (n % 128 + 128)] ∧ m = n / 128))) (fun _ c _ => (intOf c).toNat)
  case atStart => exact ⟨n, [], rfl, Lib.hid (by rw [List.append_nil]; exact HM.out), Lib.hid (.inl ⟨rfl, rfl⟩)⟩
  case round =>
    obtain ⟨m, d, rfl, HM1, HD⟩ := hrel
    have HDL : Hid (d.length ≤ 1) := Lib.hid (by rcases HD.out with ⟨e, _⟩ | ⟨_, e, _⟩ <;> rw [e] <;> simp)
    obtain ⟨ys, hys⟩ : ∃ ys, xs ++ d = ys := ⟨_, rfl⟩
    have hyl : ys.length ≤ 1001 := by rw [← hys, List.length_append]; have := HDL.out; have := HX.out; omega
    have hm : m ≤ 10000 := by rcases HD.out with ⟨_, e⟩ | ⟨_, _, e⟩ <;> omega
    have HY := Lib.hid hys
    rw [hys] at HM1
    clear hys
    by_cases hc : 128 ≤ m
    · obtain ⟨hd, hmn⟩ : d = [] ∧ m = n := by
        rcases HD.out with e | ⟨_, _, e⟩
        · exact e
        · omega
      subst hd hmn
      have HE : Hid (ys = xs) := Lib.hid (by rw [← HY.out]; simp)
      obtain ⟨p, hp⟩ : ∃ p, m % 128 = p := ⟨_, rfl⟩
      obtain ⟨q, hq⟩ : ∃ q, m / 128 = q := ⟨_, rfl⟩
      have r1 : bits .and .i64 (m : Int) 127 = (p : Int) := (bits_mask .i64 62 (by decide) wraps_i64 7 (by decide) (m : Int) (by omega) (by omega)).trans (by omega)
      have r2 : IntKind.u8.wrap (p : Int) = (p : Int) := by rw [IntKind.wrap_u8]; omega
      obtain ⟨z, hz⟩ : ∃ z, p + 128 = z := ⟨_, rfl⟩
      have r3 : bits .or .u8 (p : Int) 128 = (z : Int) := (or_128 p (by omega)).trans (by omega)
      have r4 : (m : Int) / 128 = (q : Int) := by omega
      have hc' : (128 : Int) ≤ (m : Int) := by omega
      have HM2 := Lib.hid (HM1.out.alloc (.cells #[.int .u8 (z : Int)] 5))
      have HIN := Lib.hid (in_byte wr z (by omega))
      have HLN : Hid (ys.length + [UInt8.ofNat z].length ≤ 1000000) := Lib.hid (by simp; omega)
      have HQ : Hid (128 ≤ m ∧ UInt8.ofNat z = UInt8.ofNat (m % 128 + 128) ∧ q = m / 128) := Lib.hid ⟨hc, by rw [← hz, ← hp], hq.symm⟩
      have hqm : q < m := by omega
      clear hp hq hz hc
      go_wp2_with (at_builtin; refine wpList_append_m bLen bOne _ rfl _ _ _ rfl 5 iB _ 1 Tryz.underlying22 hiB hzB hsB hbB rfl (by decide) (by omega) u0 ys [UInt8.ofNat z] rfl HM2.out.tx (some ⟨wr.heap.size, 0, none⟩) 1 1 rfl rfl HIN.out HLN.out ?_; intro v5 w5 o5 f5 h5)
      have HM5 := Lib.hid (HM2.out.more o5 f5 h5)
      clear o5 f5 h5 HM2 HIN HLN
      go_wp2_with fail
      go_roundw
      case rel => exact ⟨q, [UInt8.ofNat (m % 128 + 128)], rfl, Lib.hid (by rw [← HE.out, ← HQ.out.2.1]; exact HM5.out), Lib.hid (.inr ⟨HQ.out.1, rfl, HQ.out.2.2⟩)⟩
      case measure => simp [intOf]; omega
    · have hc' : ¬ (128 : Int) ≤ (m : Int) := by omega
      have r2 : IntKind.u8.wrap (m : Int) = (m : Int) := by rw [IntKind.wrap_u8]; omega
      have HM2 := Lib.hid (HM1.out.alloc (.cells #[.int .u8 (m : Int)] 5))
      have HIN := Lib.hid (in_byte wr m (by omega))
      have HLN : Hid (ys.length + [UInt8.ofNat m].length ≤ 1000000) := Lib.hid (by simp; omega)
      have HQ : Hid (ys ++ [UInt8.ofNat m] = xs ++ nmB n) := Lib.hid (by
        rw [← HY.out, List.append_assoc]
        congr 1
        unfold nmB
        rcases HD.out with ⟨e1, e2⟩ | ⟨e0, e1, e2⟩
        · rw [e1, if_pos (by omega), e2]; rfl
        · rw [e1, if_neg (by omega), e2]; rfl)
      clear hc
      go_wp2_with (at_builtin; refine wpList_append_m bLen bOne _ rfl _ _ _ rfl 5 iB _ 1 Tryz.underlying22 hiB hzB hsB hbB rfl (by decide) (by omega) u0 ys [UInt8.ofNat m] rfl HM2.out.tx (some ⟨wr.heap.size, 0, none⟩) 1 1 rfl rfl HIN.out HLN.out ?_; intro v5 w5 o5 f5 h5)
      have HM5 := Lib.hid (HM2.out.more o5 f5 h5)
      rw [HQ.out] at HM5
      clear o5 f5 h5 HM2 HIN HLN
      go_wp2_with fail
      go_ret
      exact ⟨_, rfl, HM5.out⟩
end Tr
end Go.Proofs.YtkofcegdoilaeaaGreatDoor
namespace Go.Proofs.YtkofcegdoilaeaaGreatDoor
open Go.RowKit Go.MapKept Go.Maps
set_option linter.unusedVariables false
set_option linter.unusedSimpArgs false
namespace Tr
open Es Tl Rk
structure EncOk (e : Ev) : Prop where
  src : e.src.size ≤ 40
  per : e.per.size ≤ 40
  item : e.item.size ≤ 40
  txt : e.txt.size ≤ 40
  num : 0 ≤ e.num ∧ e.num ≤ 60
  at_ : 0 ≤ e.at_ ∧ e.at_ ≤ 3000
  kind : 0 ≤ e.kind ∧ e.kind ≤ 13
  val : 0 ≤ e.val ∧ e.val ≤ 255
theorem lst_len : ∀ k : Fin 3, ∀ b0 b1 b2, (lstT (numT ⟨#[109]⟩ k.val) b0 b1 b2).size ≤ 40 := by decide +kernel
theorem per_len' {s : ByteArray} (h : PerT s) : s.size ≤ 40 := by obtain ⟨k, hk, rfl⟩ := h; have := numT_size ⟨#[112]⟩ k (by omega); have e : (ByteArray.size ⟨#[112]⟩) = 1 := rfl; omega
theorem item_len' {s : ByteArray} (h : ItemT s) : s.size ≤ 40 := by obtain ⟨k, hk, rfl⟩ := h; have := numT_size ⟨#[105]⟩ k (by omega); have e : (ByteArray.size ⟨#[105]⟩) = 1 := rfl; omega
theorem mak_len' {s : ByteArray} (h : MakT s) : s.size ≤ 40 := by obtain ⟨k, hk, rfl⟩ := h; have := numT_size ⟨#[109]⟩ k (by omega); have e : (ByteArray.size ⟨#[109]⟩) = 1 := rfl; omega
theorem emp_len' {s : ByteArray} (h : s = emp) : s.size ≤ 40 := by rw [h]; decide
theorem enc_ok {e : Ev} (h : TaleEv e) : EncOk e := by
  have hs : e.src.size ≤ 40 := by obtain ⟨k, hk, e'⟩ := h.src; rw [e']; have := numT_size ⟨#[115]⟩ k (by omega); have e : (ByteArray.size ⟨#[115]⟩) = 1 := rfl; omega
  have hn := h.num
  have ha := h.at_
  cases h.shp with
  | plain hk hp hi hv hx => exact ⟨hs, per_len' hp, item_len' hi, emp_len' hx, by omega, ha, by omega, by omega⟩
  | rated hk hp hi hv hx => exact ⟨hs, per_len' hp, item_len' hi, emp_len' hx, by omega, ha, by omega, by omega⟩
  | follow hk hp hi hv hx => exact ⟨hs, per_len' hp, emp_len' hi, mak_len' hx, by omega, ha, by omega, by omega⟩
  | listed hk hp hi hv hx =>
    obtain ⟨m, b0, b1, b2, ⟨j, hj, rfl⟩, hx⟩ := hx
    exact ⟨hs, emp_len' hp, item_len' hi, by rw [hx]; exact lst_len ⟨j, hj⟩ b0 b1 b2, by omega, ha, by omega, by omega⟩
  | stocked hk hp hi hv hx => exact ⟨hs, emp_len' hp, item_len' hi, emp_len' hx, by omega, ha, by omega, by omega⟩
  | delisted hk hp hi hv hx => exact ⟨hs, emp_len' hp, item_len' hi, emp_len' hx, by omega, ha, by omega, by omega⟩
theorem enc_len {e : Ev} (h : EncOk e) : 1 ≤ (encB e).length ∧ (encB e).length ≤ 200 := by
  have h1 := h.src; have h2 := h.per; have h3 := h.item; have h4 := h.txt
  have n1 := nmB_len e.num.toNat; have n2 := nmB_len e.at_.toNat; have n3 := nmB_len e.val.toNat
  unfold encB
  simp only [List.length_append, txB_len, List.length_cons, List.length_nil]
  omega
set_option maxRecDepth 100000 in
set_option maxHeartbeats 4000000 in
theorem encode_any {e : Ev} (h : TaleEv e) (w : World) (hG : Glob w) :
    Calls Tryz.prog 52 #[evV e] w fun r w' => ∃ v, r = .returned (.tuple #[v, .int .i64 0]) ∧ MkB w w' v (encB e) := by
  have hk := enc_ok h
  have HMAY := Lib.hid (may_any h (w.alloc (.cells (evC e).toArray 60)) (hG.bel ((Below.refl _ _).alloc (Nat.le_refl _) _)))
  have HBK := Lib.hid (Bk.new w (evC e) 60)
  have HB0 := Lib.hid ((Below.refl w.heap.size w).alloc (Nat.le_refl _) (.cells (evC e).toArray 60))
  clear h hG
  obtain ⟨hs1, hs2, hs3, hs4, hn, ha, hkd, hv⟩ := hk
  obtain ⟨s, n, a, k, p, i, v, x⟩ := e
  simp only at hs1 hs2 hs3 hs4 hn ha hkd hv
  obtain ⟨n, rfl⟩ : ∃ m : Nat, n = (m : Int) := ⟨n.toNat, by omega⟩
  obtain ⟨a, rfl⟩ : ∃ m : Nat, a = (m : Int) := ⟨a.toNat, by omega⟩
  obtain ⟨k, rfl⟩ : ∃ m : Nat, k = (m : Int) := ⟨k.toNat, by omega⟩
  obtain ⟨v, rfl⟩ : ∃ m : Nat, v = (m : Int) := ⟨v.toNat, by omega⟩
  have HEN : Hid (encB ⟨s, n, a, k, p, i, v, x⟩ = [UInt8.ofNat k] ++ txB s ++ nmB n ++ nmB a ++ txB p ++ txB i ++ nmB v ++ txB x) := Lib.hid rfl
  have L1 := txB_len s; have L2 := nmB_len n; have L3 := nmB_len a; have L4 := txB_len p; have L5 := txB_len i; have L6 := nmB_len v
  unfold evV evC at *
  have r1 : IntKind.u8.wrap (k : Int) = (k : Int) := by rw [IntKind.wrap_u8]; omega
  go_enter Tryz.func52, Tryz.ntmps52
  go_wp2_with fail
  refine HMAY.out.mono ?_
  rintro e w2 ⟨rfl, b2⟩
  have hbk := HBK.out.bel b2
  have HB2 := Lib.hid (HB0.out.trans (b2.mono HB0.out.size))
  have c0 := hbk.cell 0; have c1 := hbk.cell 1; have c2 := hbk.cell 2; have c3 := hbk.cell 3
  have c4 := hbk.cell 4; have c5 := hbk.cell 5; have c6 := hbk.cell 6; have c7 := hbk.cell 7
  simp only [List.getElem?_cons_zero, List.getElem?_cons_succ] at c0 c1 c2 c3 c4 c5 c6 c7
  have HC : Hid (∀ W, Below w2.heap.size w2 W → W.cell? ⟨w.heap.size, 0, none⟩ = some (.string s) ∧ W.cell? ⟨w.heap.size, 1, none⟩ = some (.int .i64 n) ∧ W.cell? ⟨w.heap.size, 2, none⟩ = some (.int .i64 a) ∧ W.cell? ⟨w.heap.size, 4, none⟩ = some (.string p) ∧ W.cell? ⟨w.heap.size, 5, none⟩ = some (.string i) ∧ W.cell? ⟨w.heap.size, 6, none⟩ = some (.int .i64 v) ∧ W.cell? ⟨w.heap.size, 7, none⟩ = some (.string x)) := Lib.hid (fun W hW =>
    ⟨(hW.cell (p := ⟨w.heap.size, 0, none⟩) hbk.lt).trans c0, (hW.cell (p := ⟨w.heap.size, 1, none⟩) hbk.lt).trans c1, (hW.cell (p := ⟨w.heap.size, 2, none⟩) hbk.lt).trans c2, (hW.cell (p := ⟨w.heap.size, 4, none⟩) hbk.lt).trans c4, (hW.cell (p := ⟨w.heap.size, 5, none⟩) hbk.lt).trans c5, (hW.cell (p := ⟨w.heap.size, 6, none⟩) hbk.lt).trans c6, (hW.cell (p := ⟨w.heap.size, 7, none⟩) hbk.lt).trans c7⟩)
  have HM0 : Hid (MkB w2 (w2.alloc (.cells #[.int .u8 (k : Int)] 5)) (.slice (some ⟨w2.heap.size, 0, none⟩) 1 1) [UInt8.ofNat k]) := Lib.hid (by
    have := MkB.one w2 (UInt8.ofNat k)
    unfold bC at this
    rw [byV_of _ (by omega)] at this
    exact this)
  clear hbk b2 HMAY HBK HB0 c0 c1 c2 c4 c5 c6 c7
  have q0 := (HC.out _ HM0.out.bl).1
  go_wp2_with fail
  refine (putText_any s HM0.out (by omega) (by simp)).mono ?_
  rintro e w3 ⟨v3, rfl, HM3⟩
  have HM3 := Lib.hid HM3
  have q1 := (HC.out _ HM3.out.bl).2.1
  clear HM0 q0
  go_wp2_with fail
  refine (putNumber_any n HM3.out (by omega) (by simp only [List.length_append, List.length_cons, List.length_nil]; omega)).mono ?_
  rintro e w4 ⟨v4, rfl, HM4⟩
  have HM4 := Lib.hid HM4
  have q2 := (HC.out _ HM4.out.bl).2.2.1
  clear HM3 q1
  go_wp2_with fail
  refine (putNumber_any a HM4.out (by omega) (by simp only [List.length_append, List.length_cons, List.length_nil]; omega)).mono ?_
  rintro e w5 ⟨v5, rfl, HM5⟩
  have HM5 := Lib.hid HM5
  have q3 := (HC.out _ HM5.out.bl).2.2.2.1
  clear HM4 q2
  go_wp2_with fail
  refine (putText_any p HM5.out (by omega) (by simp only [List.length_append, List.length_cons, List.length_nil]; omega)).mono ?_
  rintro e w6 ⟨v6, rfl, HM6⟩
  have HM6 := Lib.hid HM6
  have q4 := (HC.out _ HM6.out.bl).2.2.2.2.1
  clear HM5 q3
  go_wp2_with fail
  refine (putText_any i HM6.out (by omega) (by simp only [List.length_append, List.length_cons, List.length_nil]; omega)).mono ?_
  rintro e w7 ⟨v7, rfl, HM7⟩
  have HM7 := Lib.hid HM7
  have q5 := (HC.out _ HM7.out.bl).2.2.2.2.2.1
  clear HM6 q4
  go_wp2_with fail
  refine (putNumber_any v HM7.out (by omega) (by simp only [List.length_append, List.length_cons, List.length_nil]; omega)).mono ?_
  rintro e w8 ⟨v8, rfl, HM8⟩
  have HM8 := Lib.hid HM8
  have q6 := (HC.out _ HM8.out.bl).2.2.2.2.2.2
  clear HM7 q5
  go_wp2_with fail
  refine (putText_any x HM8.out (by omega) (by simp only [List.length_append, List.length_cons, List.length_nil]; omega)).mono ?_
  rintro e w9 ⟨v9, rfl, HM9⟩
  have HM9 := Lib.hid HM9
  clear HM8 q6
  go_wp2_with fail
  go_ret2
  exact ⟨_, rfl, by rw [HEN.out]; exact HM9.out.from HB2.out⟩
end Tr
end Go.Proofs.YtkofcegdoilaeaaGreatDoor
namespace Go.Proofs.YtkofcegdoilaeaaGreatDoor
open Go.RowKit Go.MapKept Go.Maps
set_option linter.unusedVariables false
set_option linter.unusedSimpArgs false
namespace Tr
open Es Tl Rk
theorem run_slice_mid {P : Program} (w : World) (t e : TypeId) (b : Option Addr) (n cap lo hi sz : Nat) (ht : P.underlying t = some (.slice e)) (hinfo : ∃ i, P.info? e = some i ∧ i.size = sz) (h1 : lo ≤ hi) (h2 : hi ≤ cap) :
    (Instr.slice t (.slice b n cap) (some (.int .i64 lo)) (some (.int .i64 hi)) none).run P w = .ok (.slice (subB b cap lo sz) (hi - lo) (cap - lo)) w := by
  obtain ⟨i, hi', hsz⟩ := hinfo
  simp [Instr.slice, run_underlying ht, Instr.sliceBounds, run_bound w hi cap _ h2, run_bound w lo hi _ h1, sizeOf, typeInfo, hi', hsz, Result.andThen, subB]
theorem info1 : ∃ i, Tryz.prog.info? 5 = some i ∧ i.size = 1 := by obtain ⟨i, h1, _, h3, _⟩ := tinfo infoByte; exact ⟨i, h1, h3⟩
/-- a reader that stands at k -/
structure Rd (w : World) (rb : Nat) (b : Option Addr) (n cap : Nat) (xs : Bs) (k : Nat) : Prop where
  bk : Bk w rb [.slice b n cap, .int .i64 k, .int .i64 0] 124
  inb : BIn w b xs
  ne : ∀ B o, b = some ⟨B, o, none⟩ → B ≠ rb
  len : n = xs.length
  cap : n ≤ cap
  short : n ≤ 1000
theorem Rd.fr {w w' : World} {rb : Nat} {b : Option Addr} {n cap : Nat} {xs : Bs} {k k' : Nat} (h : Rd w rb b n cap xs k) (hb : Bk w' rb [.slice b n cap, .int .i64 k', .int .i64 0] 124) (hf : Fr (fun q => q = rb) w w') : Rd w' rb b n cap xs k' :=
  ⟨hb, InW.fr h.inb hf (fun B o e => h.ne B o e), h.ne, h.len, h.cap, h.short⟩
theorem Rd.bel {w w' : World} {rb : Nat} {b : Option Addr} {n cap : Nat} {xs : Bs} {k : Nat} (h : Rd w rb b n cap xs k) (hb : Below w.heap.size w w') : Rd w' rb b n cap xs k :=
  ⟨h.bk.bel hb, h.inb.bel hb, h.ne, h.len, h.cap, h.short⟩
/-- what a reader's call leaves -/
def RdPost (w : World) (rb : Nat) (b : Option Addr) (n cap : Nat) (xs : Bs) (k : Nat) (v : Value) (e : Ending) (w' : World) : Prop := e = .returned v ∧ Rd w' rb b n cap xs k ∧ Fr (fun q => q = rb) w w'
set_option maxRecDepth 100000 in
set_option maxHeartbeats 2000000 in
theorem one_any {w : World} {rb : Nat} {b : Option Addr} {n cap : Nat} {xs : Bs} {k : Nat} (h : Rd w rb b n cap xs k) {c : UInt8} (hc : xs[k]? = some c) :
    Calls Tryz.prog 60 #[.pointer (some ⟨rb, 0, none⟩)] w (RdPost w rb b n cap xs (k + 1) (.int .u8 c.toNat)) := by
  have hlt := (List.getElem?_eq_some_iff.1 hc).1
  obtain ⟨B, off, hb, hB, hcell⟩ := inw_at (f := byV) h.inb hc
  have hne := h.ne B off hb
  have hkn : k < n := by rw [h.len]; exact hlt
  have hn1000 := h.short
  have c0 : w.cell? ⟨rb, 0, none⟩ = some (.slice b n cap) := h.bk.cell 0
  have c1 : w.cell? ⟨rb, 1, none⟩ = some (.int .i64 k) := h.bk.cell 1
  have c2 : w.cell? ⟨rb, 2, none⟩ = some (.int .i64 0) := h.bk.cell 2
  have f1 := h.bk.free 1
  have HD : Hid (∀ m : Nat, Rd ((w.drewN m).setCell ⟨rb, 1, none⟩ (.int .i64 ((k : Int) + 1))) rb b n cap xs (k + 1) ∧ Fr (fun q => q = rb) w ((w.drewN m).setCell ⟨rb, 1, none⟩ (.int .i64 ((k : Int) + 1))) ∧ ((w.drewN m).setCell ⟨rb, 1, none⟩ (.int .i64 ((k : Int) + 1))).cell? ⟨rb, 0, none⟩ = some (.slice b n cap) ∧ ((w.drewN m).setCell ⟨rb, 1, none⟩ (.int .i64 ((k : Int) + 1))).cell? ⟨rb, 1, none⟩ = some (.int .i64 ((k : Int) + 1)) ∧ ((w.drewN m).setCell ⟨rb, 1, none⟩ (.int .i64 ((k : Int) + 1))).cell? ⟨B, off + k, none⟩ = some (.int .u8 (c.toNat : Int))) := Lib.hid (fun m => by
    have hf1 : Fr (fun q => q = rb) w ((w.drewN m).setCell ⟨rb, 1, none⟩ (.int .i64 ((k : Int) + 1))) := ((Fr.refl _ w).drewN m).setCell rb 1 _ (.inr rfl)
    have hb1 : Bk ((w.drewN m).setCell ⟨rb, 1, none⟩ (.int .i64 ((k : Int) + 1))) rb [.slice b n cap, .int .i64 ((k + 1 : Nat) : Int), .int .i64 0] 124 := (show Bk (w.drewN m) rb _ _ from h.bk).set 1 (.int .i64 ((k : Int) + 1))
    exact ⟨h.fr hb1 hf1, hf1, hb1.cell 0, (hb1.cell 1).trans (by rw [List.getElem?_cons_succ, List.getElem?_cons_zero]; simp), by rw [hf1.cell hB hne]; exact hcell⟩)
  have r1 : IntKind.i64.wrap ((k : Int) + 1) = (k : Int) + 1 := IntWalk.i64_in _ (by omega)
  have r2 : IntKind.i64.wrap (k : Int) = (k : Int) := IntWalk.i64_in _ (by omega)
  have hk0 : (0 : Int) ≤ (k : Int) := by omega
  have hk1 : (k : Int) < (n : Int) := by omega
  have hk2 : ¬ (n : Int) ≤ (k : Int) := by omega
  subst hb
  clear h hc hlt hcell hkn
  go_enter Tryz.func60, Tryz.ntmps60
  go_wp2_with fail
  go_quiet (fail)
  go_upto_region 7 with fail
  obtain ⟨hr, hf, d0, d1, d2⟩ := HD.out nq
  have HR := Lib.hid hr
  have HF := Lib.hid hf
  clear hr hf HD
  generalize (w.drewN nq).setCell ⟨rb, 1, none⟩ (.int .i64 ((k : Int) + 1)) = W at HR HF d0 d1 d2 ⊢
  go_quiet (fail)
  go_wp2_with fail
  go_ret
  exact ⟨rfl, ⟨HR.out.bk, HR.out.inb, HR.out.ne, HR.out.len, HR.out.cap, HR.out.short⟩, HF.out.drewN _⟩
end Tr
end Go.Proofs.YtkofcegdoilaeaaGreatDoor
namespace Go.Proofs.YtkofcegdoilaeaaGreatDoor
open Go.RowKit Go.MapKept Go.Maps
set_option linter.unusedVariables false
set_option linter.unusedSimpArgs false
namespace Tr
open Es Tl Rk
theorem drop_at {xs ys : Bs} {k : Nat} {c : UInt8} (h : xs.drop k = c :: ys) : xs[k]? = some c ∧ xs.drop (k + 1) = ys ∧ k < xs.length := by
  have h1 : (xs.drop k)[0]? = some c := by rw [h]; rfl
  rw [List.getElem?_drop, Nat.add_zero] at h1
  refine ⟨h1, ?_, (List.getElem?_eq_some_iff.1 h1).1⟩
  have : (xs.drop k).drop 1 = ys := by rw [h]; rfl
  rwa [List.drop_drop] at this
theorem sub_text {W : World} {b : Option Addr} {cap k : Nat} {xs rest : Bs} {s : ByteArray} (h : BIn W b xs) (hc : xs.length ≤ cap) (hd : xs.drop k = s.data.toList ++ rest) : ByIn W (subB b cap k 1) s := by
  have h1 := (subB_inw (k := k) h (by rw [List.length_map]; exact hc)).take s.size
  unfold ByIn
  rw [← List.map_drop, ← List.map_take, hd, List.take_left' (by rw [len_data])] at h1
  exact h1
theorem rd_set {w : World} {rb : Nat} {b : Option Addr} {n cap : Nat} {xs : Bs} {k k2 : Nat} (h : Rd w rb b n cap xs k) (m : Nat) : Rd ((w.drewN m).setCell ⟨rb, 1, none⟩ (.int .i64 k2)) rb b n cap xs k2 ∧ Fr (fun q => q = rb) w ((w.drewN m).setCell ⟨rb, 1, none⟩ (.int .i64 k2)) := by
  have hf1 : Fr (fun q => q = rb) w ((w.drewN m).setCell ⟨rb, 1, none⟩ (.int .i64 k2)) := ((Fr.refl _ w).drewN m).setCell rb 1 _ (.inr rfl)
  have hb1 : Bk ((w.drewN m).setCell ⟨rb, 1, none⟩ (.int .i64 k2)) rb [.slice b n cap, .int .i64 k2, .int .i64 0] 124 := (show Bk (w.drewN m) rb _ _ from h.bk).set 1 (.int .i64 k2)
  exact ⟨h.fr hb1 hf1, hf1⟩
theorem quiet_op {P : Program} {C : World → Prop} {K : Act → Prop} {o : Oper} {a : Act} (v : Value) (hr : ∀ w, C w → (execOp a.eval o).run P w = .ok (.value v) w) (hk : K (a.put o.dst v)) : o.quiet P a C K :=
  ⟨v, fun w hw => by unfold Oper.quietAt; rw [hr w hw]; exact ⟨rfl, rfl⟩, hk⟩
theorem fr_both {rb : Nat} {a b c : World} (h : Fr (fun q => q = rb) a b) (k : Fr (fun q => q = rb) b c) : Fr (fun q => q = rb) a c := h.trans k (fun _ _ e => e)
set_option maxRecDepth 100000 in
set_option maxHeartbeats 2000000 in
theorem text_any {w : World} {rb : Nat} {b : Option Addr} {n cap : Nat} {xs rest : Bs} {k : Nat} (s : ByteArray) (h : Rd w rb b n cap xs k) (hd : xs.drop k = txB s ++ rest) (hs : s.size ≤ 200) :
    Calls Tryz.prog 61 #[.pointer (some ⟨rb, 0, none⟩)] w (RdPost w rb b n cap xs (k + (s.size + 1)) (.string s)) := by
  obtain ⟨hc, hd2, hlt⟩ := drop_at (show xs.drop k = UInt8.ofNat s.size :: (s.data.toList ++ rest) from hd)
  have hO := one_any h hc
  rw [show (UInt8.ofNat s.size).toNat = s.size by rw [UInt8.toNat_ofNat', Nat.mod_eq_of_lt (by omega)]] at hO
  have HO := Lib.hid hO
  have hn := h.short
  have hle : k + 1 + s.size ≤ n := by
    have := congrArg List.length hd2
    rw [List.length_drop, List.length_append, len_data] at this
    rw [h.len]; omega
  have hcn := h.cap
  have HD := Lib.hid hd2
  obtain ⟨k1, hk1⟩ : ∃ k1, k + 1 = k1 := ⟨_, rfl⟩
  obtain ⟨k2, hk2⟩ : ∃ k2, k1 + s.size = k2 := ⟨_, rfl⟩
  have HK : Hid (k + (s.size + 1) = k2) := Lib.hid (by omega)
  rw [hk1] at HO HD hle
  obtain ⟨z, hz⟩ : ∃ z, s.size = z := ⟨_, rfl⟩
  have HZ := Lib.hid hz
  rw [hz] at HO hs hle hk2
  have r0 : IntKind.i64.wrap (z : Int) = (z : Int) := IntWalk.i64_in _ (by omega)
  have r1 : IntKind.i64.wrap ((n : Int) - (k1 : Int)) = (n : Int) - (k1 : Int) := IntWalk.i64_in _ (by omega)
  have r2 : ¬ (n : Int) - (k1 : Int) < (z : Int) := by omega
  have r3 : IntKind.i64.wrap ((k1 : Int) + (z : Int)) = (k2 : Int) := (IntWalk.i64_in _ (by omega)).trans (by omega)
  have r4 : IntKind.i64.wrap ((k2 : Int) - (z : Int)) = (k1 : Int) := (IntWalk.i64_in _ (by omega)).trans (by omega)
  have HQ : Hid (k1 ≤ k2 ∧ k2 ≤ cap ∧ k2 - k1 = z) := Lib.hid ⟨by omega, by omega, by omega⟩
  clear h hc hd hd2 hlt hO hz
  go_enter Tryz.func61, Tryz.ntmps61
  go_wp2_with fail
  refine HO.out.mono ?_
  rintro e w1 ⟨rfl, h1, f1⟩
  have c0 : w1.cell? ⟨rb, 0, none⟩ = some (.slice b n cap) := h1.bk.cell 0
  have c1 : w1.cell? ⟨rb, 1, none⟩ = some (.int .i64 k1) := h1.bk.cell 1
  have c2 : w1.cell? ⟨rb, 2, none⟩ = some (.int .i64 0) := h1.bk.cell 2
  have z1 := h1.bk.free 1
  have HS := Lib.hid (fun m => rd_set (k2 := k2) h1 m)
  have HF1 := Lib.hid f1
  clear h1 f1 HO
  go_wp2_with fail
  go_quiet (fail)
  go_upto_region 8 with fail
  obtain ⟨hr, hf⟩ := HS.out nq
  have HR := Lib.hid hr
  have HF := Lib.hid (fr_both HF1.out hf)
  clear HS hf HF1
  generalize (w1.drewN nq).setCell ⟨rb, 1, none⟩ (.int .i64 (k2 : Int)) = W at HR HF hr ⊢
  have d0 : W.cell? ⟨rb, 0, none⟩ = some (.slice b n cap) := hr.bk.cell 0
  have d1 : W.cell? ⟨rb, 1, none⟩ = some (.int .i64 k2) := hr.bk.cell 1
  have E1 : Hid (∀ m, (Instr.slice 22 (.slice b n cap) (some (.int .i64 k1)) (some (.int .i64 k2)) none).run Tryz.prog (W.drewN m) = .ok (.slice (subB b cap k1 1) z (cap - k1)) (W.drewN m)) := Lib.hid (fun m => by
    have := run_slice_mid (P := Tryz.prog) (W.drewN m) 22 5 b n cap k1 k2 1 Tryz.underlying22 info1 HQ.out.1 HQ.out.2.1
    rwa [HQ.out.2.2] at this)
  have E2 : Hid (∀ m, (convert 22 9 (.slice (subB b cap k1 1) z (cap - k1))).run Tryz.prog (W.drewN m) = .ok (.string s) (W.drewN m)) := Lib.hid (fun m => by
    have := text_of (w := W.drewN m) (sub_text (show BIn (W.drewN m) b xs from hr.inb) (by rw [← hr.len]; exact hr.cap) HD.out) (cap - k1)
    rwa [HZ.out] at this)
  clear hr
  refine wp_region_quiet_lit (by kernel_rfl) (by kernel_rfl) ?_
  repeat (quiet_step (fail))
  refine BigFrame.wpQuiet_want (by rfl) (fun K hK => ?_)
  refine quiet_op (.slice (subB b cap k1 1) z (cap - k1)) (fun w hw => ?_) (hK _ ?_)
  · obtain ⟨m, rfl⟩ := hw
    have h := E1.out m
    go_simp
  clear hK K
  simp only [Act.put, List.setIfInBounds_toArray, List.set_cons_zero, List.set_cons_succ]
  refine BigFrame.wpQuiet_want (by rfl) (fun K hK => ?_)
  refine quiet_op (.string s) (fun w hw => ?_) (hK _ ?_)
  · obtain ⟨m, rfl⟩ := hw
    have h := E2.out m
    go_simp
  clear hK K
  simp only [Act.put, List.setIfInBounds_toArray, List.set_cons_zero, List.set_cons_succ]
  repeat (quiet_step (fail))
  refine wpQuiet_nil ?_
  intro _ hw'
  obtain ⟨nq2, hw''⟩ := hw'
  subst hw''
  go_wp2_with fail
  go_ret
  exact ⟨rfl, by rw [HK.out]; exact ⟨HR.out.bk, HR.out.inb, HR.out.ne, HR.out.len, HR.out.cap, HR.out.short⟩, HF.out.drewN _⟩
set_option maxRecDepth 100000 in
set_option maxHeartbeats 4000000 in
theorem number_any {w : World} {rb : Nat} {b : Option Addr} {n cap : Nat} {xs rest : Bs} {k : Nat} (m : Nat) (h : Rd w rb b n cap xs k) (hd : xs.drop k = nmB m ++ rest) (hm : m ≤ 10000) :
    Calls Tryz.prog 62 #[.pointer (some ⟨rb, 0, none⟩)] w (RdPost w rb b n cap xs (k + (nmB m).length) (.int .i64 m)) := by
  have HD := Lib.hid hd
  have HH := Lib.hid h
  clear h hd
  go_enter Tryz.func62, Tryz.ntmps62
  go_wp2_with fail
  go_loopw [3, 6] (fun x i wr => (x = .int .i64 0 ∧ i = .int .i64 0 ∧ Hid (Rd wr rb b n cap xs k ∧ Fr (fun q => q = rb) w wr)) ∨ (Hid (128 ≤ m) ∧ x = .int .i64 (m % 128 : Nat) ∧ i = .int .i64 1 ∧ Hid (Rd wr rb b n cap xs (k + 1) ∧ Fr (fun q => q = rb) w wr))) (fun _ i _ => 2 - (intOf i).toNat)
  case atStart => exact .inl ⟨rfl, rfl, Lib.hid ⟨HH.out, Fr.refl _ _⟩⟩
  case round =>
    rcases hrel with ⟨rfl, rfl, H⟩ | ⟨hm1, rfl, rfl, H⟩
    · by_cases hs : m < 128
      · have HL : Hid (k + (nmB m).length = k + 1) := Lib.hid (by unfold nmB; rw [if_pos hs]; rfl)
        have hd2 : xs.drop k = UInt8.ofNat m :: rest := by have := HD.out; unfold nmB at this; rw [if_pos hs] at this; exact this
        obtain ⟨hc, _, _⟩ := drop_at hd2
        have hO := one_any H.out.1 hc
        rw [show (UInt8.ofNat m).toNat = m by rw [UInt8.toNat_ofNat', Nat.mod_eq_of_lt (by omega)]] at hO
        have HO := Lib.hid hO
        have r1 : bits .and .u8 (m : Int) 127 = (m : Int) := (bits_mask .u8 8 (by decide) wraps_u8 7 (by decide) (m : Int) (by omega) (by omega)).trans (by omega)
        have r2 : IntKind.i64.wrap (m : Int) = (m : Int) := IntWalk.i64_in _ (by omega)
        have r3 : bits .or .i64 0 (m : Int) = (m : Int) := (bits_join .i64 62 (by decide) wraps_i64 7 0 _ (by omega) (by omega) (by omega) (by omega) (by omega) (by omega)).trans (by omega)
        have t1 : ¬ (128 : Int) ≤ (m : Int) := by omega
        have t2 : (m : Int) < 128 := by omega
        clear hO hc hd2 hs
        go_wp2_with fail
        refine HO.out.mono ?_
        rintro e w1 ⟨rfl, h1, f1⟩
        have c2 : w1.cell? ⟨rb, 2, none⟩ = some (.int .i64 0) := h1.bk.cell 2
        have H1 := Lib.hid (And.intro h1 (fr_both H.out.2 f1))
        clear h1 f1 HO H
        by_cases hz : m = 0
        · have z1 : ((m : Int) == 0) = true := by simp [hz]
          clear hz
          go_wp2_with fail
          go_ret
          exact ⟨rfl, by rw [HL.out]; exact H1.out.1, H1.out.2⟩
        · have z1 : ((m : Int) == 0) = false := by simp [hz]
          clear hz
          go_wp2_with fail
          go_ret
          exact ⟨rfl, by rw [HL.out]; exact H1.out.1, H1.out.2⟩
      · have hd2 : xs.drop k = UInt8.ofNat (m % 128 + 128) :: (UInt8.ofNat (m / 128) :: rest) := by have := HD.out; unfold nmB at this; rw [if_neg hs] at this; exact this
        obtain ⟨hc, _, _⟩ := drop_at hd2
        have hO := one_any H.out.1 hc
        rw [show (UInt8.ofNat (m % 128 + 128)).toNat = m % 128 + 128 by rw [UInt8.toNat_ofNat', Nat.mod_eq_of_lt (by omega)]] at hO
        obtain ⟨p, hp⟩ : ∃ p, m % 128 = p := ⟨_, rfl⟩
        obtain ⟨z, hz⟩ : ∃ z, p + 128 = z := ⟨_, rfl⟩
        rw [hp, hz] at hO
        have HO := Lib.hid hO
        have r1 : bits .and .u8 (z : Int) 127 = (p : Int) := (bits_mask .u8 8 (by decide) wraps_u8 7 (by decide) (z : Int) (by omega) (by omega)).trans (by omega)
        have r2 : IntKind.i64.wrap (p : Int) = (p : Int) := IntWalk.i64_in _ (by omega)
        have r3 : bits .or .i64 0 (p : Int) = (p : Int) := (bits_join .i64 62 (by decide) wraps_i64 7 0 _ (by omega) (by omega) (by omega) (by omega) (by omega) (by omega)).trans (by omega)
        have t1 : (128 : Int) ≤ (z : Int) := by omega
        have t2 : ¬ (z : Int) < 128 := by omega
        have t3 : ((z : Int) == 0) = false := by simp; omega
        have HP : Hid (128 ≤ m ∧ m % 128 = p) := Lib.hid ⟨by omega, hp⟩
        clear hO hc hd2 hs hp hz
        go_wp2_with fail
        refine HO.out.mono ?_
        rintro e w1 ⟨rfl, h1, f1⟩
        have c2 : w1.cell? ⟨rb, 2, none⟩ = some (.int .i64 0) := h1.bk.cell 2
        have H1 := Lib.hid (And.intro h1 (fr_both H.out.2 f1))
        clear h1 f1 HO H
        go_wp2_with fail
        go_roundw
        case rel => exact .inr ⟨Lib.hid HP.out.1, by rw [HP.out.2], rfl, H1⟩
        case measure => simp [intOf]
    · have hs := hm1.out
      have HL : Hid (k + (nmB m).length = k + 1 + 1) := Lib.hid (by unfold nmB; rw [if_neg (by omega)]; rfl)
      have hd2 : xs.drop k = UInt8.ofNat (m % 128 + 128) :: (UInt8.ofNat (m / 128) :: rest) := by have := HD.out; unfold nmB at this; rw [if_neg (by omega)] at this; exact this
      obtain ⟨hc, _, _⟩ := drop_at (drop_at hd2).2.1
      have hO := one_any H.out.1 hc
      rw [show (UInt8.ofNat (m / 128)).toNat = m / 128 by rw [UInt8.toNat_ofNat', Nat.mod_eq_of_lt (by omega)]] at hO
      obtain ⟨p, hp⟩ : ∃ p, m % 128 = p := ⟨_, rfl⟩
      obtain ⟨q, hq⟩ : ∃ q, m / 128 = q := ⟨_, rfl⟩
      rw [hq] at hO
      have HO := Lib.hid hO
      have r1 : bits .and .u8 (q : Int) 127 = (q : Int) := (bits_mask .u8 8 (by decide) wraps_u8 7 (by decide) (q : Int) (by omega) (by omega)).trans (by omega)
      have r2 : IntKind.i64.wrap (q : Int) = (q : Int) := IntWalk.i64_in _ (by omega)
      have r4 : IntKind.i64.wrap ((q : Int) * 128) = (q : Int) * 128 := IntWalk.i64_in _ (by omega)
      have r3 : bits .or .i64 (p : Int) ((q : Int) * 128) = (m : Int) := by
        have e1 := (bits_nat .i64 62 (by decide) wraps_i64 p (q * 128) (by omega) (by omega)).2
        have e2 : bits .or .i64 (p : Int) ((q : Int) * 128) = ((p ||| (q * 128) : Nat) : Int) := by rw [← e1]; norm_cast
        rw [e2, Nat.or_comm, Nat.mul_comm, show (128 : Nat) = 2 ^ 7 from rfl, ← Nat.two_pow_add_eq_or_of_lt (by omega)]
        omega
      have t1 : ¬ (128 : Int) ≤ (q : Int) := by omega
      have t2 : (q : Int) < 128 := by omega
      have t3 : ((q : Int) == 0) = false := by simp; omega
      rw [hp]
      clear hO hc hd2 hs hp hq
      go_wp2_with fail
      refine HO.out.mono ?_
      rintro e w1 ⟨rfl, h1, f1⟩
      have c2 : w1.cell? ⟨rb, 2, none⟩ = some (.int .i64 0) := h1.bk.cell 2
      have H1 := Lib.hid (And.intro h1 (fr_both H.out.2 f1))
      clear h1 f1 HO H
      go_wp2_with fail
      go_ret
      exact ⟨rfl, by rw [HL.out]; exact H1.out.1, H1.out.2⟩
end Tr
end Go.Proofs.YtkofcegdoilaeaaGreatDoor

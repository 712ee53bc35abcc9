/- The top over sessions and likeness, in one text (TSes, TSes2, Cmp, TKin): a claim has at most 60 files. -/
import Derived.Test.YtbmjddmejmeknaaRatio
import Derived.Test.YtbmjddmejmeknaaEApart
import Derived.Test.YtbmjddmejmeknaaTop1
import Derived.Test.YtbmjddmejmeknaaQOf
namespace Go.Proofs.Ytbmjddmejmeknaa
section
open Wide

theorem own_pos (a b : Int) : 0 ≤ ownN a b ∧ 1 ≤ ownD a b := by
  unfold ownN ownD mayB
  by_cases h : 0 ≤ a ∧ 1 ≤ b
  · simp [h]
  · simp [h]
theorem cmpR_mul (a b c d : Int) : cmpR a b c d = cmpW (ownN a b * ownD c d) (ownN c d * ownD a b) := by
  unfold cmpR
  have h1 := own_pos a b
  have h2 := own_pos c d
  rw [prod_nn _ _ h1.1 (by omega), prod_nn _ _ h2.1 (by omega)]
theorem cmpW_le {x y : Int} : cmpW x y ≤ 0 ↔ x ≤ y := by
  unfold cmpW; split
  · omega
  · split <;> omega
theorem cmpW_lt_iff {x y : Int} : cmpW x y < 0 ↔ x < y := by
  unfold cmpW; split
  · omega
  · split <;> omega
theorem cmpW_zero {x y : Int} : cmpW x y = 0 ↔ x = y := by
  unfold cmpW; split
  · omega
  · split <;> omega
theorem cmpW_turn (x y : Int) : cmpW y x = - cmpW x y := by
  unfold cmpW
  by_cases h1 : x < y
  · rw [if_pos h1, if_neg (by omega), if_neg (by omega)]; rfl
  · by_cases h2 : x = y
    · rw [if_neg (by omega), if_pos h2.symm, if_neg h1, if_pos h2]; rfl
    · rw [if_pos (by omega), if_neg h1, if_neg h2]
theorem cmpW_bd (x y : Int) : -1 ≤ cmpW x y ∧ cmpW x y ≤ 1 := by
  unfold cmpW; split
  · omega
  · split <;> omega
theorem cmpR_turn (a b c d : Int) : cmpR c d a b = - cmpR a b c d := by rw [cmpR_mul, cmpR_mul, cmpW_turn]
theorem cmpR_bd (a b c d : Int) : -1 ≤ cmpR a b c d ∧ cmpR a b c d ≤ 1 := cmpW_bd _ _
theorem cmpR_refl (a b : Int) : cmpR a b a b = 0 := by rw [cmpR_mul]; exact cmpW_zero.2 rfl
theorem mul_right_cancel_le {x y d : Int} (hd : 1 ≤ d) (h : x * d ≤ y * d) : x ≤ y :=
  Int.le_of_mul_le_mul_right h (by omega)
theorem frac_trans {A B C D E F : Int} (hB : 1 ≤ B) (hD : 1 ≤ D) (hF : 1 ≤ F) (h1 : A * D ≤ C * B) (h2 : C * F ≤ E * D) : A * F ≤ E * B := by
  have k1 : A * D * F ≤ C * B * F := Int.mul_le_mul_of_nonneg_right h1 (by omega)
  have k2 : C * F * B ≤ E * D * B := Int.mul_le_mul_of_nonneg_right h2 (by omega)
  apply mul_right_cancel_le hD
  have e1 : A * F * D = A * D * F := by rw [Int.mul_assoc, Int.mul_comm F D, ← Int.mul_assoc]
  have e2 : C * F * B = C * B * F := by rw [Int.mul_assoc, Int.mul_comm F B, ← Int.mul_assoc]
  have e3 : E * B * D = E * D * B := by rw [Int.mul_assoc, Int.mul_comm B D, ← Int.mul_assoc]
  omega
theorem frac_trans_lt1 {A B C D E F : Int} (hB : 1 ≤ B) (hD : 1 ≤ D) (hF : 1 ≤ F) (h1 : A * D < C * B) (h2 : C * F ≤ E * D) : A * F < E * B := by
  have k1 : A * D * F < C * B * F := Int.mul_lt_mul_of_pos_right h1 (by omega)
  have k2 : C * F * B ≤ E * D * B := Int.mul_le_mul_of_nonneg_right h2 (by omega)
  have e1 : A * F * D = A * D * F := by rw [Int.mul_assoc, Int.mul_comm F D, ← Int.mul_assoc]
  have e2 : C * F * B = C * B * F := by rw [Int.mul_assoc, Int.mul_comm F B, ← Int.mul_assoc]
  have e3 : E * B * D = E * D * B := by rw [Int.mul_assoc, Int.mul_comm B D, ← Int.mul_assoc]
  have k3 : A * F * D < E * B * D := by omega
  exact Int.lt_of_mul_lt_mul_right k3 (by omega)
theorem frac_trans_lt2 {A B C D E F : Int} (hB : 1 ≤ B) (hD : 1 ≤ D) (hF : 1 ≤ F) (h1 : A * D ≤ C * B) (h2 : C * F < E * D) : A * F < E * B := by
  have k1 : A * D * F ≤ C * B * F := Int.mul_le_mul_of_nonneg_right h1 (by omega)
  have k2 : C * F * B < E * D * B := Int.mul_lt_mul_of_pos_right h2 (by omega)
  have e1 : A * F * D = A * D * F := by rw [Int.mul_assoc, Int.mul_comm F D, ← Int.mul_assoc]
  have e2 : C * F * B = C * B * F := by rw [Int.mul_assoc, Int.mul_comm F B, ← Int.mul_assoc]
  have e3 : E * B * D = E * D * B := by rw [Int.mul_assoc, Int.mul_comm B D, ← Int.mul_assoc]
  have k3 : A * F * D < E * B * D := by omega
  exact Int.lt_of_mul_lt_mul_right k3 (by omega)
theorem cmpR_trans (a b c d e f : Int) (h1 : cmpR a b c d ≤ 0) (h2 : cmpR c d e f ≤ 0) : cmpR a b e f ≤ 0 := by
  rw [cmpR_mul, cmpW_le] at *
  exact frac_trans (own_pos a b).2 (own_pos c d).2 (own_pos e f).2 h1 h2
theorem cmpR_trans_lt (a b c d e f : Int) (h1 : cmpR a b c d ≤ 0) (h2 : cmpR c d e f ≤ 0) (h3 : cmpR a b c d + cmpR c d e f < 0) : cmpR a b e f < 0 := by
  by_cases h : cmpR a b c d < 0
  · rw [cmpR_mul, cmpW_lt_iff] at h
    rw [cmpR_mul c d e f, cmpW_le] at h2
    rw [cmpR_mul, cmpW_lt_iff]
    exact frac_trans_lt1 (own_pos a b).2 (own_pos c d).2 (own_pos e f).2 h h2
  · have h4 : cmpR c d e f < 0 := by omega
    rw [cmpR_mul, cmpW_lt_iff] at h4
    rw [cmpR_mul a b c d, cmpW_le] at h1
    rw [cmpR_mul, cmpW_lt_iff]
    exact frac_trans_lt2 (own_pos a b).2 (own_pos c d).2 (own_pos e f).2 h1 h4
end
section
open Go.RowKit Go.MapKept Go.Maps Go.ChangeShapes Go.WideShapes
open Pn (AddT atC atOk ats_at fewT)
set_option linter.unusedVariables false
set_option linter.unusedSimpArgs false
def vP : ByteArray := ⟨#[112]⟩
def vis (a : AddT) : Tri := (vP, ((a.2.1 : Nat) : Int), a.1)
def namedB (l : List AddT) : Bool := l.all fun a => okT (vP, 1, a.1)
theorem named_vis {l : List AddT} (h : namedB l = true) (ho : ∀ a ∈ l, atOk a) : ∀ a ∈ l, okT (vis a) = true := fun a ha => by
  have h1 := (okT_iff _).1 (List.all_eq_true.1 h a ha)
  rw [okT_iff]
  have h2 := (ho a ha).2.1
  unfold vis
  refine ⟨h1.1, h1.2.1, h1.2.2.1, h1.2.2.2.1, ?_, ?_⟩
  · show (0 : Int) ≤ ((a.2.1 : Nat) : Int); omega
  · show ((a.2.1 : Nat) : Int) ≤ 1099511627776; omega
def Lp (l : List AddT) : List Tri := addsT [] (l.map vis)
theorem Lp_ok (l : List AddT) : SOk (Lp l) := SOk.nil.adds _
theorem Lp_mem {l : List AddT} (h : ∀ a ∈ l, okT (vis a) = true) (x : Tri) : x ∈ Lp l ↔ ∃ a ∈ l, vis a = x := by
  unfold Lp
  rw [mem_adds]
  simp only [List.not_mem_nil, or_false, List.mem_map]
  constructor
  · exact fun h => h.1
  · rintro ⟨a, ha, rfl⟩
    exact ⟨⟨a, ha, rfl⟩, h a ha⟩
theorem Lp_rev {l : List AddT} : Lp l.reverse = Lp l := by
  refine (Lp_ok _).ext (Lp_ok _) (fun x => ?_)
  unfold Lp
  rw [mem_adds, mem_adds]
  simp
theorem Lp_len (l : List AddT) : (Lp l).length ≤ l.length := by
  have hn : (Lp l).Nodup := RiseG.nodup ordA (Lp_ok l).rise
  have := nodup_len hn (m := l.map vis) (fun x hx => by
    unfold Lp at hx
    rw [mem_adds] at hx
    rcases hx with h | h
    · exact h.1
    · cases h)
  rwa [List.length_map] at this
theorem run_its (gap : Int) : ∀ (L : List Tri) (x z : Se), z ∈ runS gap x L → ∀ i ∈ z.its, i ∈ x.its ∨ ∃ b ∈ L, i = b.2.2
  | [], x, z, h, i, hi => by simp [runS] at h; rw [h] at hi; exact .inl hi
  | a :: L, x, z, h, i, hi => by
    rw [runS] at h
    by_cases e : joinB gap x a
    · rw [if_pos e] at h
      rcases run_its gap L _ z h i hi with h | ⟨b, hb, h⟩
      · have h' : i ∈ putB x.its a.2.2 := h
        rw [putB_mem] at h'
        rcases h' with h' | h'
        · exact .inr ⟨a, by simp, h'⟩
        · exact .inl h'
      · exact .inr ⟨b, by simp [hb], h⟩
    · rw [if_neg e] at h
      rcases List.mem_cons.1 h with rfl | h
      · exact .inl hi
      · rcases run_its gap L _ z h i hi with h | ⟨b, hb, h⟩
        · have h' : i ∈ [a.2.2] := h
          exact .inr ⟨a, by simp, List.mem_singleton.1 h'⟩
        · exact .inr ⟨b, by simp [hb], h⟩
theorem run_per (gap : Int) (p : ByteArray) : ∀ (L : List Tri) (x z : Se), x.p = p → (∀ b ∈ L, b.1 = p) → z ∈ runS gap x L → z.p = p
  | [], x, z, hx, hL, h => by simp [runS] at h; rw [h]; exact hx
  | a :: L, x, z, hx, hL, h => by
    rw [runS] at h
    by_cases e : joinB gap x a
    · rw [if_pos e] at h
      exact run_per gap p L (extS x a) z hx (fun b hb => hL b (by simp [hb])) h
    · rw [if_neg e] at h
      rcases List.mem_cons.1 h with rfl | h
      · exact hx
      · exact run_per gap p L (newS a) z (hL a (by simp)) (fun b hb => hL b (by simp [hb])) h
/-- what is known of the sessions of one person's visits -/
structure Fine (l : List AddT) (gap : Int) (S : List Se) : Prop where
  ap : S.Pairwise fun x y => gap < y.f - x.t
  fi : ∀ z ∈ S, FineS z
  rg : ∀ z ∈ S, (0 ≤ z.f ∧ z.f ≤ 65535) ∧ (0 ≤ z.t ∧ z.t ≤ 65535)
  sz : ∀ z ∈ S, z.its.length ≤ 100 ∧ ∀ i ∈ z.its, i.size ≤ 24
  ln : S.length ≤ 100
  on : ∀ a ∈ l, S.countP (fun z => decide (z.f ≤ ((a.2.1 : Nat) : Int)) && decide (((a.2.1 : Nat) : Int) ≤ z.t)) = 1
theorem count_le_one {S : List Se} {gap : Int} (hg : 0 ≤ gap) (q : Int) (hap : S.Pairwise fun x y => gap < y.f - x.t) : S.countP (fun z => decide (z.f ≤ q) && decide (q ≤ z.t)) ≤ 1 := by
  induction S with
  | nil => simp
  | cons x S ih =>
    have h := List.pairwise_cons.1 hap
    rw [List.countP_cons]
    by_cases e : (decide (x.f ≤ q) && decide (q ≤ x.t)) = true
    · have h0 : S.countP (fun z => decide (z.f ≤ q) && decide (q ≤ z.t)) = 0 := by
        rw [List.countP_eq_zero]
        intro y hy hc
        have := h.1 y hy
        simp only [Bool.and_eq_true, decide_eq_true_eq] at e hc
        omega
      rw [h0, if_pos e]
      omega
    · rw [if_neg e]
      have := ih h.2
      omega
theorem fine_of {l : List AddT} {gap : Int} (hg : 0 ≤ gap) (hl : l.length ≤ 60) (ho : ∀ a ∈ l, okT (vis a) = true) (h16 : ∀ a ∈ l, atOk a) : Fine l gap (allS gap (Lp l)) := by
  obtain ⟨h1, h2, h3⟩ := all_apart hg (Lp_ok l).rise
  have hlen := Lp_len l
  have hp : ∀ z ∈ allS gap (Lp l), z.p = vP := fun z hz => by
    have hall : ∀ b ∈ Lp l, b.1 = vP := fun b hb => by
      obtain ⟨a, _, rfl⟩ := (Lp_mem ho b).1 hb
      rfl
    cases hL : Lp l with
    | nil => rw [hL] at hz; simp [allS] at hz
    | cons a L =>
      rw [hL, all_cons] at hz
      rw [hL] at hall
      exact run_per gap vP L (newS a) z (hall a (by simp)) (fun b hb => hall b (by simp [hb])) hz
  have hits : ∀ z ∈ allS gap (Lp l), ∀ i ∈ z.its, ∃ b ∈ Lp l, i = b.2.2 := fun z hz i hi => by
    cases hL : Lp l with
    | nil => rw [hL] at hz; simp [allS] at hz
    | cons a L =>
      rw [hL, all_cons] at hz
      rcases run_its gap L (newS a) z hz i hi with h | ⟨b, hb, h⟩
      · have h' : i ∈ [a.2.2] := h
        exact ⟨a, by simp, List.mem_singleton.1 h'⟩
      · exact ⟨b, by simp [hb], h⟩
  have hrg := all_rng (gap := gap) (fun q => 0 ≤ q ∧ q ≤ 65535) (L := Lp l) (fun b hb => by
    obtain ⟨a, ha, rfl⟩ := (Lp_mem ho b).1 hb
    have := (h16 a ha).2.1
    show (0 : Int) ≤ ((a.2.1 : Nat) : Int) ∧ ((a.2.1 : Nat) : Int) ≤ 65535
    omega)
  have hap : (allS gap (Lp l)).Pairwise fun x y => gap < y.f - x.t := by
    refine List.Pairwise.imp_of_mem (fun {x y} hx hy h => ?_) h1
    rcases h with h | h
    · rw [hp x hx, hp y hy] at h
      exact absurd h (ltB_irrefl _)
    · exact h.2
  refine ⟨hap, h2, fun z hz => hrg z hz, fun z hz => ⟨?_, fun i hi => ?_⟩, ?_, fun a ha => ?_⟩
  · have := nodup_len (h2 z hz).ri.nodup (m := (Lp l).map fun b => b.2.2) (fun i hi => by
      obtain ⟨b, hb, rfl⟩ := hits z hz i hi
      exact List.mem_map.2 ⟨b, hb, rfl⟩)
    rw [List.length_map] at this
    omega
  · obtain ⟨b, hb, rfl⟩ := hits z hz i hi
    obtain ⟨a, ha, rfl⟩ := (Lp_mem ho b).1 hb
    exact ((okT_iff _).1 (ho a ha)).2.2.2.1
  · have := all_le gap (Lp l)
    omega
  · have hle := count_le_one hg ((a.2.1 : Nat) : Int) hap
    have hpos : 0 < (allS gap (Lp l)).countP (fun z => decide (z.f ≤ ((a.2.1 : Nat) : Int)) && decide (((a.2.1 : Nat) : Int) ≤ z.t)) := by
      rw [List.countP_pos_iff]
      have hone := h3 (vis a) ((Lp_mem ho _).2 ⟨a, ha, rfl⟩)
      rcases Classical.em (∃ z ∈ allS gap (Lp l), covS z (vis a)) with ⟨z, hz, hc⟩ | hno
      · exact ⟨z, hz, by
          have := hc.2
          simp only [Bool.and_eq_true, decide_eq_true_eq]
          exact this⟩
      · rw [cntS_zero (fun z hz hc => hno ⟨z, hz, hc⟩)] at hone
        cases hone
    omega
set_option maxRecDepth 20000 in
set_option maxHeartbeats 2000000 in
theorem named_any (b : Option Addr) (cap : Nat) (l : List AddT) (w : World) (h : InW w b 3 (l.map atC)) (hm : cap ≤ maxLen) (hl : l.length ≤ cap) (ho : ∀ a ∈ l, atOk a) :
    Calls Try.prog 7 #[.slice b l.length cap] w fun e w' => e = .returned (.bool (namedB l)) ∧ Below w.heap.size w w' := by
  obtain ⟨r, hr⟩ : ∃ r, namedB l = r := ⟨_, rfl⟩
  rw [hr]
  have HR := Lib.hid hr
  have HIW := Lib.hid h
  have HO := Lib.hid ho
  clear hr h ho
  unfold maxLen at hm
  generalize hn : l.length = n at *
  have Hn := Lib.hid hn
  clear hn
  have HA0 : Hid ((l.take 0).all (fun a => okT (vP, 1, a.1)) = true) := Lib.hid rfl
  have BL0 := Lib.hid (Below.refl w.heap.size w)
  go_enter Try.func7, Try.ntmps7
  go_wp2_with fail
  go_loopw [7] (fun c wr => ∃ k : Nat, k ≤ n ∧ c = .int .i64 k ∧ Hid (Below w.heap.size w wr) ∧ Hid ((l.take k).all (fun a => okT (vP, 1, a.1)) = true)) (fun c _ => n - (intOf c).toNat)
  case atStart => exact ⟨0, by omega, rfl, BL0, HA0⟩
  case round =>
    obtain ⟨k, hk, rfl, HB, HA⟩ := hrel
    clear BL0 HA0
    by_cases hlt : k < n
    · obtain ⟨a, ha⟩ : ∃ a, l[k]? = some a := ⟨l[k]'(by have := Hn.out; omega), List.getElem?_eq_getElem _⟩
      obtain ⟨B, off, rfl, hB, d0, d1, d2⟩ := ats_at HIW.out ha
      have c0 := (HB.out.cell (p := ⟨B, off + k * 3, none⟩) hB).trans d0
      have c1 := (HB.out.cell (p := ⟨B, off + k * 3 + 1, none⟩) hB).trans d1
      have c2 := (HB.out.cell (p := ⟨B, off + k * 3 + 2, none⟩) hB).trans d2
      have hsz : a.1.size ≤ maxLen := (HO.out a (List.mem_of_getElem? ha)).1
      have HS := Lib.hid ha
      have hi0 : (0 : Int) ≤ (k : Int) := by omega
      have hi1 : (k : Int) < (n : Int) := by omega
      have HBA : Hid (Below w.heap.size w (wr.alloc (.cells #[.string a.1, .int .u16 (a.2.1 : Int), .int .u16 (a.2.2 : Int)] 36))) := Lib.hid (HB.out.trans (((Below.refl _ _).alloc (Nat.le_refl _) _).mono HB.out.size))
      have hb0 := Bk.new wr [.string a.1, .int .u16 (a.2.1 : Int), .int .u16 (a.2.2 : Int)] 36
      have HBK := Lib.hid hb0
      obtain ⟨r1, hr1⟩ : ∃ r1, okT (vP, 1, a.1) = r1 := ⟨_, rfl⟩
      have HR1 := Lib.hid hr1
      clear ha d0 d1 d2 hB hr1
      go_wp2_with fail
      generalize wr.alloc (.cells #[.string a.1, .int .u16 (a.2.1 : Int), .int .u16 (a.2.2 : Int)] 36) = W at *
      generalize wr.heap.size = bx at *
      have kk0 : W.drew.cell? ⟨bx, 0, none⟩ = some (.string a.1) := HBK.out.cell 0
      have NW := Lib.hid (ses_new 1 W.drew (by unfold I64; omega))
      clear c0 c1 c2
      go_region_held3 (fun X => X.cell? ⟨bx, 0, none⟩ = some (.string a.1)) (first | assumption | exact kk0 | exact kk1 | exact kk2 | go_keep)
        (first
          | (go_at_call 19
             (with_reducible refine NW.out.mono ?_)
             rintro e w2 ⟨rfl, s2, b2⟩
             have S2 := Lib.hid s2
             have B2 := Lib.hid b2
             have kk1 : w2.cell? ⟨bx, 0, none⟩ = some (.string a.1) := (HBK.out.bel ((Below.refl W.heap.size W).drew.trans b2)).cell 0
             have AD : Hid (Calls Try.prog 20 #[.pointer (some ⟨W.heap.size + 1, 0, none⟩), .string ⟨#[112]⟩, .int .i64 1, .string a.1] w2 fun e w' => e = .returned (.bool r1) ∧ Fr (fun b => b ∈ [W.heap.size + 1, W.heap.size]) w2 w') := Lib.hid (by
               have h := add_any s2 vP a.1 1 (by decide) hsz (by unfold I64; omega) (by simp)
               rw [HR1.out] at h
               exact h.mono (fun e w' q => ⟨q.1, q.2.2⟩))
             clear s2 b2)
          | (go_at_call 20
             (with_reducible refine AD.out.mono ?_)
             rintro e w3 ⟨rfl, f3⟩
             have HF3 := Lib.hid f3
             have kk2 : w3.cell? ⟨bx, 0, none⟩ = some (.string a.1) := ((HBK.out.bel ((Below.refl W.heap.size W).drew.trans B2.out)).fr f3 (fun hc => by
               have hz := HBK.out.lt
               have hz2 : W.drew.heap.size = W.heap.size := rfl
               simp only [List.mem_cons, List.not_mem_nil, or_false] at hc
               omega)).cell 0
             clear f3)
          | fail)
      have B3 : Hid (Below w.heap.size w w3) := Lib.hid (by
        have h1 : Below w.heap.size w w2 := HBA.out.trans (((Below.refl W.heap.size W).drew.trans B2.out).mono HBA.out.size)
        have hz2 : W.drew.heap.size = W.heap.size := rfl
        have hz := HBA.out.size
        exact h1.trans (HF3.out.below h1.size (fun x hx => by
          simp only [List.mem_cons, List.not_mem_nil, or_false] at hx
          omega)))
      clear S2 B2 AD NW HF3 kk1 kk2 HBA
      cases r1 with
      | true =>
        have HA2 : Hid ((l.take (k + 1)).all (fun a => okT (vP, 1, a.1)) = true) := Lib.hid (by
          rw [List.take_add_one, HS.out, List.all_append, HA.out]
          simp [HR1.out])
        clear HA
        go_wp2_with fail
        go_roundw
        case rel => exact ⟨k + 1, by omega, by go_num, B3, HA2⟩
        case measure => simp [intOf]; omega
      | false =>
        have e : r = false := by
          rw [← HR.out, namedB, List.all_eq_false]
          exact ⟨a, List.mem_of_getElem? HS.out, by rw [HR1.out]; decide⟩
        subst e
        go_wp2_with fail
        go_ret
        exact ⟨rfl, B3.out⟩
    · have e : r = true := by
        have h1 := HA.out
        rw [List.take_of_length_le (by rw [Hn.out]; omega)] at h1
        rw [← HR.out]; exact h1
      subst e
      clear HA
      go_wp2_with fail
      go_ret
      exact ⟨rfl, HB.out⟩
/-- what visits has made so far -/
structure VisI (w wr : World) (s : Nat) (g : Int) (L : List Tri) : Prop where
  se : ∃ B, SesAt wr s B g L ∧ ∀ b ∈ B, w.heap.size ≤ b
  bl : Below w.heap.size w wr
theorem VisI.bel {w wr w' : World} {s : Nat} {g : Int} {L : List Tri} (h : VisI w wr s g L) (hb : Below wr.heap.size wr w') : VisI w w' s g L := by
  obtain ⟨B, h1, h2⟩ := h.se
  exact ⟨⟨B, h1.bel hb, h2⟩, h.bl.trans (hb.mono h.bl.size)⟩
theorem VisI.add {w wr : World} {s : Nat} {g : Int} {L : List Tri} (h : VisI w wr s g L) (k : ByteArray) (t : Int) (hk : k.size ≤ maxLen) (ht : I64 t) (hn : L.length + 1 ≤ 100000) :
    Calls Try.prog 20 #[.pointer (some ⟨s, 0, none⟩), .string ⟨#[112]⟩, .int .i64 t, .string k] wr fun e w' => (∃ r, e = .returned (.bool r)) ∧ VisI w w' s g (addT L (vP, t, k)) := by
  obtain ⟨B, h1, h2⟩ := h.se
  refine (add_any h1 vP k t (by decide) hk ht hn).mono ?_
  rintro e w' ⟨rfl, ⟨B', h3, h4⟩, h5⟩
  have hz := h.bl.size
  refine ⟨⟨_, rfl⟩, ⟨B', h3, fun b hb => ?_⟩, h.bl.trans (h5.below h.bl.size (fun b hb => h2 b hb))⟩
  rcases h4 b hb with q | q
  · exact h2 b q
  · omega
set_option maxRecDepth 20000 in
set_option maxHeartbeats 2000000 in
theorem visits_fwd (b : Option Addr) (cap : Nat) (l : List AddT) (g : Int) (w : World) (h : InW w b 3 (l.map atC)) (hm : cap ≤ maxLen) (hl : l.length ≤ cap) (ho : ∀ a ∈ l, atOk a) (h60 : l.length ≤ 60) (hg : I64 g) (hgg : gapOf g = g) :
    Calls Try.prog 8 #[.slice b l.length cap, .int .i64 g, .bool false] w fun e w' => ∃ s, e = .returned (.pointer (some ⟨s, 0, none⟩)) ∧ VisI w w' s g (Lp l) := by
  have HIW := Lib.hid h
  have HO := Lib.hid ho
  have NW := Lib.hid (ses_new g w hg)
  rw [hgg] at NW
  clear h ho hg hgg
  unfold maxLen at hm
  generalize hn : l.length = n at *
  have Hn := Lib.hid hn
  clear hn
  go_enter Try.func8, Try.ntmps8
  go_wp2_with fail
  refine NW.out.mono ?_
  rintro e w1 ⟨rfl, s1, b1⟩
  have V1 : Hid (VisI w w1 (w.heap.size + 1) g (addsT [] ((l.take 0).map vis))) := Lib.hid ⟨⟨_, s1, fun x hx => by
    simp only [List.mem_cons, List.not_mem_nil, or_false] at hx
    omega⟩, b1⟩
  clear s1 b1 NW
  generalize hs : w.heap.size + 1 = s at *
  clear hs
  go_wp2_with fail
  go_loopw [14] (fun c wr => ∃ k : Nat, k ≤ n ∧ c = .int .i64 k ∧ Hid (VisI w wr s g (addsT [] ((l.take k).map vis)))) (fun c _ => n - (intOf c).toNat)
  case atStart => exact ⟨0, by omega, rfl, V1⟩
  case round =>
    obtain ⟨k, hk, rfl, HV⟩ := hrel
    clear V1
    by_cases hlt : k < n
    · obtain ⟨a0, ha0⟩ : ∃ a, l[k]? = some a := ⟨l[k]'(by have := Hn.out; omega), List.getElem?_eq_getElem _⟩
      obtain ⟨B, off, rfl, hB, d0, d1, d2⟩ := ats_at HIW.out ha0
      have c0 := (HV.out.bl.cell (p := ⟨B, off + k * 3, none⟩) hB).trans d0
      have c1 := (HV.out.bl.cell (p := ⟨B, off + k * 3 + 1, none⟩) hB).trans d1
      have c2 := (HV.out.bl.cell (p := ⟨B, off + k * 3 + 2, none⟩) hB).trans d2
      have hsz : a0.1.size ≤ maxLen := (HO.out a0 (List.mem_of_getElem? ha0)).1
      have h16 := (HO.out a0 (List.mem_of_getElem? ha0)).2.1
      have hI : I64 ((a0.2.1 : Nat) : Int) := by unfold I64; omega
      have hls : l[k]? = some a0 := ha0
      have hst : addsT [] ((l.take (k + 1)).map vis) = addT (addsT [] ((l.take k).map vis)) (vis a0) := by
        rw [List.take_add_one, hls, Option.toList_some, List.map_append, List.map_cons, List.map_nil, addsT_snoc]
      have hln : (addsT [] ((l.take k).map vis)).length + 1 ≤ 100000 := by
        have h1 := Lp_len (l.take k)
        unfold Lp at h1
        have h2 := List.length_take (l := l) (i := k)
        omega
      have HST := Lib.hid hst
      have hi0 : (0 : Int) ≤ (k : Int) := by omega
      have hi1 : (k : Int) < (n : Int) := by omega
      have q16 : IntKind.i64.wrap (a0.2.1 : Int) = (a0.2.1 : Int) := IntWalk.i64_in _ (by omega)
      have q16' : RowKit.wrap64 (a0.2.1 : Int) = (a0.2.1 : Int) := IntWalk.wrap64_in _ (by omega)
      have HVA := Lib.hid (HV.out.bel ((Below.refl wr.heap.size wr).alloc (Nat.le_refl _) (.cells #[.string a0.1, .int .u16 (a0.2.1 : Int), .int .u16 (a0.2.2 : Int)] 36)))
      have AD := Lib.hid (HVA.out.add a0.1 (a0.2.1 : Int) hsz hI hln)
      clear ha0 d0 d1 d2 hB hst hls hln hsz HV hI
      go_wp2_with fail
      refine AD.out.mono ?_
      rintro e w4 ⟨⟨r, rfl⟩, v4⟩
      have V4 : Hid (VisI w w4 s g (addsT [] ((l.take (k + 1)).map vis))) := Lib.hid (by rw [HST.out]; exact v4)
      clear v4 AD HVA HST c0 c1 c2 q16 q16'
      go_wp2_with fail
      go_roundw
      case rel => exact ⟨k + 1, by omega, by go_num, V4⟩
      case measure => simp [intOf]; omega
    · have HE : Hid (VisI w wr s g (Lp l)) := Lib.hid (by
        have h := HV.out
        rw [List.take_of_length_le (by have := Hn.out; omega)] at h
        exact h)
      clear HV
      go_wp2_with fail
      go_ret
      exact ⟨s, rfl, HE.out⟩
set_option maxRecDepth 20000 in
set_option maxHeartbeats 2000000 in
theorem visits_back (b : Option Addr) (cap : Nat) (l : List AddT) (g : Int) (w : World) (h : InW w b 3 (l.map atC)) (hm : cap ≤ maxLen) (hl : l.length ≤ cap) (ho : ∀ a ∈ l, atOk a) (h60 : l.length ≤ 60) (hg : I64 g) (hgg : gapOf g = g) :
    Calls Try.prog 8 #[.slice b l.length cap, .int .i64 g, .bool true] w fun e w' => ∃ s, e = .returned (.pointer (some ⟨s, 0, none⟩)) ∧ VisI w w' s g (Lp l) := by
  have HIW := Lib.hid h
  have HO := Lib.hid ho
  have NW := Lib.hid (ses_new g w hg)
  rw [hgg] at NW
  clear h ho hg hgg
  unfold maxLen at hm
  generalize hn : l.length = n at *
  have Hn := Lib.hid hn
  clear hn
  go_enter Try.func8, Try.ntmps8
  go_wp2_with fail
  refine NW.out.mono ?_
  rintro e w1 ⟨rfl, s1, b1⟩
  have V1 : Hid (VisI w w1 (w.heap.size + 1) g (addsT [] ((l.reverse.take 0).map vis))) := Lib.hid ⟨⟨_, s1, fun x hx => by
    simp only [List.mem_cons, List.not_mem_nil, or_false] at hx
    omega⟩, b1⟩
  clear s1 b1 NW
  generalize hs : w.heap.size + 1 = s at *
  clear hs
  go_wp2_with fail
  go_loopw [14] (fun c wr => ∃ k : Nat, k ≤ n ∧ c = .int .i64 k ∧ Hid (VisI w wr s g (addsT [] ((l.reverse.take k).map vis)))) (fun c _ => n - (intOf c).toNat)
  case atStart => exact ⟨0, by omega, rfl, V1⟩
  case round =>
    obtain ⟨k, hk, rfl, HV⟩ := hrel
    clear V1
    by_cases hlt : k < n
    · obtain ⟨a0, ha0⟩ : ∃ a, l[k]? = some a := ⟨l[k]'(by have := Hn.out; omega), List.getElem?_eq_getElem _⟩
      obtain ⟨B, off, rfl, hB, d0, d1, d2⟩ := ats_at HIW.out ha0
      have c0 := (HV.out.bl.cell (p := ⟨B, off + k * 3, none⟩) hB).trans d0
      have c1 := (HV.out.bl.cell (p := ⟨B, off + k * 3 + 1, none⟩) hB).trans d1
      have c2 := (HV.out.bl.cell (p := ⟨B, off + k * 3 + 2, none⟩) hB).trans d2
      obtain ⟨a, ha⟩ : ∃ a, l[n - 1 - k]? = some a := ⟨l[n - 1 - k]'(by have := Hn.out; omega), List.getElem?_eq_getElem _⟩
      obtain ⟨B', off', hbb, hB', f0, f1, f2⟩ := ats_at HIW.out ha
      cases hbb
      have hbal : Below w.heap.size w (wr.alloc (.cells #[.string a0.1, .int .u16 (a0.2.1 : Int), .int .u16 (a0.2.2 : Int)] 36)) := HV.out.bl.trans (((Below.refl _ _).alloc (Nat.le_refl _) _).mono HV.out.bl.size)
      have e0 := (hbal.cell (p := ⟨B, off + (n - 1 - k) * 3, none⟩) hB').trans f0
      have e1 := (hbal.cell (p := ⟨B, off + (n - 1 - k) * 3 + 1, none⟩) hB').trans f1
      have e2 := (hbal.cell (p := ⟨B, off + (n - 1 - k) * 3 + 2, none⟩) hB').trans f2
      have hj0 : (0 : Int) ≤ ((n - 1 - k : Nat) : Int) := by omega
      have hj1 : ((n - 1 - k : Nat) : Int) < (n : Int) := by omega
      have hbx0 : B ≠ wr.heap.size := by have := HV.out.bl.size; omega
      have hbx1 : wr.heap.size ≠ B := fun e => hbx0 e.symm
      have q1 : RowKit.wrap64 ((n : Int) - 1) = ((n - 1 : Nat) : Int) := by rw [IntWalk.wrap64_in _ (by omega)]; omega
      have q2 : RowKit.wrap64 (((n - 1 : Nat) : Int) - (k : Int)) = ((n - 1 - k : Nat) : Int) := by rw [IntWalk.wrap64_in _ (by omega)]; omega
      have hsz : a.1.size ≤ maxLen := (HO.out a (List.mem_of_getElem? ha)).1
      have h16 := (HO.out a (List.mem_of_getElem? ha)).2.1
      have hI : I64 ((a.2.1 : Nat) : Int) := by unfold I64; omega
      have hls : l.reverse[k]? = some a := by rw [List.getElem?_reverse (by have := Hn.out; omega), Hn.out]; exact ha
      have hst : addsT [] ((l.reverse.take (k + 1)).map vis) = addT (addsT [] ((l.reverse.take k).map vis)) (vis a) := by
        rw [List.take_add_one, hls, Option.toList_some, List.map_append, List.map_cons, List.map_nil, addsT_snoc]
      have hln : (addsT [] ((l.reverse.take k).map vis)).length + 1 ≤ 100000 := by
        have h1 := Lp_len (l.reverse.take k)
        unfold Lp at h1
        have h2 := List.length_take (l := l.reverse) (i := k)
        omega
      have HST := Lib.hid hst
      have hi0 : (0 : Int) ≤ (k : Int) := by omega
      have hi1 : (k : Int) < (n : Int) := by omega
      have q16 : IntKind.i64.wrap (a.2.1 : Int) = (a.2.1 : Int) := IntWalk.i64_in _ (by omega)
      have q16' : RowKit.wrap64 (a.2.1 : Int) = (a.2.1 : Int) := IntWalk.wrap64_in _ (by omega)
      have HVA := Lib.hid (HV.out.bel ((Below.refl wr.heap.size wr).alloc (Nat.le_refl _) (.cells #[.string a.1, .int .u16 (a.2.1 : Int), .int .u16 (a.2.2 : Int)] 36)))
      have AD := Lib.hid (HVA.out.add a.1 (a.2.1 : Int) hsz hI hln)
      clear ha0 d0 d1 d2 hB hst hls hln hsz HV hI hbal ha f0 f1 f2 hB'
      go_wp2_with fail
      refine AD.out.mono ?_
      rintro e w4 ⟨⟨r, rfl⟩, v4⟩
      have V4 : Hid (VisI w w4 s g (addsT [] ((l.reverse.take (k + 1)).map vis))) := Lib.hid (by rw [HST.out]; exact v4)
      clear v4 AD HVA HST c0 c1 c2 q16 q16' e0 e1 e2
      go_wp2_with fail
      go_roundw
      case rel => exact ⟨k + 1, by omega, by go_num, V4⟩
      case measure => simp [intOf]; omega
    · have HE : Hid (VisI w wr s g (Lp l)) := Lib.hid (by
        have h := HV.out
        rw [List.take_of_length_le (by rw [List.length_reverse]; have := Hn.out; omega)] at h
        rw [← Lp_rev]
        exact h)
      clear HV
      go_wp2_with fail
      go_ret
      exact ⟨s, rfl, HE.out⟩
end
section
open Go.RowKit Go.MapKept Go.Maps Go.ChangeShapes Go.WideShapes
open Pn (AddT atC atOk ats_at fewT)
set_option linter.unusedVariables false
set_option linter.unusedSimpArgs false
theorem svAt {w : World} {b : Option Addr} {l : List SV} (h : InW w b 4 (l.map svC)) {i : Nat} {a : SV} (ha : l[i]? = some a) : ∃ B off, b = some ⟨B, off, none⟩ ∧ B < w.heap.size ∧ w.cell? ⟨B, off + i * 4, none⟩ = some (.string a.p) ∧ w.cell? ⟨B, off + i * 4 + 1, none⟩ = some (.int .i64 a.f) ∧ w.cell? ⟨B, off + i * 4 + 2, none⟩ = some (.int .i64 a.t) ∧ w.cell? ⟨B, off + i * 4 + 3, none⟩ = some (.slice a.ib a.its.length a.ic) := by
  have hm : (l.map svC)[i]? = some (svC a) := by rw [List.getElem?_map, ha]; rfl
  rcases h with h | ⟨B, off, hb, hl, hc⟩
  · rw [h] at hm; simp at hm
  · exact ⟨B, off, hb, hl, hc i _ hm 0 _ rfl, hc i _ hm 1 _ rfl, hc i _ hm 2 _ rfl, hc i _ hm 3 _ rfl⟩
def itN (k : ByteArray) (x : SV) : Nat := Pr.c1 x.its k
def toPr (x : SV) : Pr.Sv := ⟨x.p, x.f, x.t, x.ib, x.ic, x.its⟩
theorem its_cnt (k : ByteArray) : ∀ svs : List SV, (∀ x ∈ svs, Rise x.its) → (svs.map (itN k)).sum = Pr.cntB (svs.map toPr) k k
  | [], _ => rfl
  | x :: svs, h => by
    have ih := its_cnt k svs (fun y hy => h y (by simp [hy]))
    have e1 : Pr.cntB ((x :: svs).map toPr) k k = Pr.cntB (svs.map toPr) k k + if Pr.hasB (toPr x) k k = true then 1 else 0 := by
      unfold Pr.cntB; rw [List.map_cons, List.countP_cons]
    rw [List.map_cons, List.sum_cons, ih, e1]
    unfold itN
    rw [Pr.c1_nodup (h x (by simp)).nodup]
    by_cases e : k ∈ x.its
    · have : Pr.hasB (toPr x) k k = true := by unfold Pr.hasB; rw [Bool.and_self]; exact (memB_iff _ _).2 e
      rw [if_pos e, if_pos this]; omega
    · have : Pr.hasB (toPr x) k k = false := by unfold Pr.hasB; rw [Bool.and_self]; exact memB_no e
      rw [if_neg e, this]; simp
theorem sum_snoc {svs : List SV} {j : Nat} {x : SV} (h : svs[j]? = some x) (f : SV → Nat) : ((svs.take (j + 1)).map f).sum = ((svs.take j).map f).sum + f x := by
  rw [List.take_add_one, h, Option.toList_some, List.map_append, List.sum_append]
  simp
theorem c1_snoc {l : List ByteArray} {j : Nat} {x : ByteArray} (h : l[j]? = some x) (k : ByteArray) : Pr.c1 (l.take (j + 1)) k = Pr.c1 (l.take j) k + if x = k then 1 else 0 := by
  unfold Pr.c1
  rw [List.take_add_one, h, Option.toList_some, List.countP_append]
  congr 1
  by_cases e : x = k <;> simp [e]
def covB (q : Int) (x : SV) : Bool := decide (x.f ≤ q) && decide (q ≤ x.t)
theorem cov_snoc {svs : List SV} {j : Nat} {x : SV} (h : svs[j]? = some x) (q : Int) : (svs.take (j + 1)).countP (covB q) = (svs.take j).countP (covB q) + if covB q x = true then 1 else 0 := by
  rw [List.take_add_one, h, Option.toList_some, List.countP_append]
  congr 1
  by_cases e : covB q x = true <;> simp [e]
theorem cov_map (svs : List SV) (q : Int) : (svs.map seOf).countP (fun z => decide (z.f ≤ q) && decide (q ≤ z.t)) = svs.countP (covB q) := by
  rw [List.countP_map]
  rfl
theorem pr_in {w : World} {b : Option Addr} {svs : List SV} (h : SvIn w b svs) (hs : ∀ x ∈ svs, ∀ i ∈ x.its, i.size ≤ 24) : Pr.SvIn w b (svs.map toPr) := by
  refine ⟨?_, fun y hy => ?_⟩
  · have e : (svs.map toPr).map Pr.svC = svs.map svC := by
      rw [List.map_map]; rfl
    rw [e]; exact h.i
  · obtain ⟨x, hx, rfl⟩ := List.mem_map.1 hy
    obtain ⟨h1, h2, h3⟩ := h.it x hx
    exact ⟨h1, h2, h3, fun s hs' => by have := hs x hx s hs'; unfold maxLen; omega⟩
/-- sessions in memory that are those of the visits -/
structure SeIn (w : World) (b : Option Addr) (l : List AddT) (g : Int) (svs : List SV) : Prop where
  si : SvIn w b svs
  fi : Fine l g (svs.map seOf)
theorem SeIn.bel {w w' : World} {b : Option Addr} {l : List AddT} {g : Int} {svs : List SV} (h : SeIn w b l g svs) (hb : Below w.heap.size w w') : SeIn w' b l g svs := ⟨h.si.bel hb, h.fi⟩
theorem SeIn.ok {w : World} {b : Option Addr} {l : List AddT} {g : Int} {svs : List SV} (h : SeIn w b l g svs) {x : SV} (hx : x ∈ svs) : FineS (seOf x) ∧ ((0 ≤ x.f ∧ x.f ≤ 65535) ∧ (0 ≤ x.t ∧ x.t ≤ 65535)) ∧ x.its.length ≤ 100 ∧ ∀ i ∈ x.its, i.size ≤ 24 := by
  have hm : seOf x ∈ svs.map seOf := List.mem_map.2 ⟨x, hx, rfl⟩
  exact ⟨h.fi.fi _ hm, h.fi.rg _ hm, h.fi.sz _ hm⟩
theorem SeIn.gap {w : World} {b : Option Addr} {l : List AddT} {g : Int} {svs : List SV} (h : SeIn w b l g svs) {j : Nat} {z x : SV} (hz : svs[j]? = some z) (hx : svs[j + 1]? = some x) : g < x.f - z.t := by
  have hap := h.fi.ap
  have e1 : (svs.map seOf)[j]? = some (seOf z) := by rw [List.getElem?_map, hz]; rfl
  have e2 : (svs.map seOf)[j + 1]? = some (seOf x) := by rw [List.getElem?_map, hx]; rfl
  obtain ⟨a1, b1⟩ := List.getElem?_eq_some_iff.1 e1
  obtain ⟨a2, b2⟩ := List.getElem?_eq_some_iff.1 e2
  have := List.pairwise_iff_getElem.1 hap j (j + 1) a1 a2 (by omega)
  rw [b1, b2] at this
  exact this
theorem SeIn.light {w : World} {b : Option Addr} {l : List AddT} {g : Int} {svs : List SV} (h : SeIn w b l g svs) : Pr.Light (svs.map toPr) := by
  have := h.fi.ln
  rw [List.length_map] at this
  refine ⟨by rw [List.length_map]; exact this, fun y hy => ?_⟩
  obtain ⟨x, hx, rfl⟩ := List.mem_map.1 hy
  exact (h.ok hx).2.2.1
theorem SeIn.one {w : World} {b : Option Addr} {l : List AddT} {g : Int} {svs : List SV} (h : SeIn w b l g svs) {a : AddT} (ha : a ∈ l) : svs.countP (covB ((a.2.1 : Nat) : Int)) = 1 := by
  rw [← cov_map]
  exact h.fi.on a ha
theorem gap_of {g : Int} (h1 : 1 ≤ g) (h2 : g ≤ 256) : gapOf g = g := by unfold gapOf; omega
/-- All, of visits -/
theorem all_vis {w0 w : World} {s : Nat} {g : Int} {l : List AddT} (h : VisI w0 w s g (Lp l)) (hg : 0 ≤ g) (hl : l.length ≤ 60) (ho : ∀ a ∈ l, okT (vis a) = true) (h16 : ∀ a ∈ l, atOk a) :
    Calls Try.prog 9 #[.pointer (some ⟨s, 0, none⟩)] w fun e w' => ∃ (b : Option Addr) (c : Nat) (svs : List SV), e = .returned (.slice b svs.length c) ∧ svs.length ≤ c ∧ c ≤ maxLen ∧ SeIn w' b l g svs ∧ svs.map seOf = allS g (Lp l) ∧ Below w.heap.size w w' := by
  obtain ⟨B, h1, _⟩ := h.se
  refine (sall_any h1).mono ?_
  rintro e w' ⟨b, c, svs, h2, h3, h4, h5, _, h7, h8⟩
  exact ⟨b, c, svs, h2, h3, h4, ⟨h5, by rw [h7]; exact fine_of hg hl ho h16⟩, h7, h8⟩
end
section
open Go.RowKit Go.MapKept Go.Maps Go.ChangeShapes Go.WideShapes
open Pn (AddT atC atOk ats_at fewT)
set_option linter.unusedVariables false
set_option linter.unusedSimpArgs false
theorem cntS_none {a : Tri} : ∀ {S : List Se}, (∀ z ∈ S, a.2.2 ∉ z.its) → cntS a S = 0
  | [], _ => rfl
  | z :: S, h => by
    have ih := cntS_none (a := a) (S := S) (fun y hy => h y (by simp [hy]))
    have h0 : cntI a z.its = 0 := by
      unfold cntI
      rw [List.length_eq_zero_iff, List.filter_eq_nil_iff]
      intro i hi hc
      rw [decide_eq_true_eq] at hc
      exact h z (by simp) (hc ▸ hi)
    unfold cntS at ih ⊢
    rw [List.map_cons, List.sum_cons, ih, h0]
    simp
theorem item_in {l : List AddT} {g : Int} (hg : 0 ≤ g) (ho : ∀ a ∈ l, okT (vis a) = true) {a : AddT} (ha : a ∈ l) : ∃ z ∈ allS g (Lp l), a.1 ∈ z.its := by
  have h1 := (all_apart hg (Lp_ok l).rise).2.2 (vis a) ((Lp_mem ho _).2 ⟨a, ha, rfl⟩)
  rcases Classical.em (∃ z ∈ allS g (Lp l), a.1 ∈ z.its) with h | h
  · exact h
  · rw [cntS_none (fun z hz hc => h ⟨z, hz, hc⟩)] at h1
    cases h1
def inB (L : List ByteArray) (a : ByteArray) : Bool := decide (a ∈ L)
theorem inB_snoc {L : List ByteArray} {j : Nat} {t : ByteArray} (h : L[j]? = some t) (a : ByteArray) : inB (L.take (j + 1)) a = (inB (L.take j) a || decide (t = a)) := by
  unfold inB
  rw [List.take_add_one, h, Option.toList_some, Bool.eq_iff_iff]
  simp only [List.mem_append, List.mem_singleton, Bool.or_eq_true, decide_eq_true_eq]
  exact ⟨fun h => h.imp id Eq.symm, fun h => h.imp id Eq.symm⟩
def togB (A : List SV) (a b : ByteArray) : Bool := A.all fun x => inB x.its a == inB x.its b
theorem tog_snoc {A : List SV} {j : Nat} {x : SV} (h : A[j]? = some x) (a b : ByteArray) : togB (A.take (j + 1)) a b = (togB (A.take j) a b && (inB x.its a == inB x.its b)) := by
  unfold togB
  rw [List.take_add_one, h, Option.toList_some, List.all_append]
  simp
theorem has_is (x : SV) (a b : ByteArray) : Pr.hasB (toPr x) a b = (inB x.its a && inB x.its b) := by
  unfold Pr.hasB inB
  rw [Bool.eq_iff_iff]
  simp only [Bool.and_eq_true, decide_eq_true_eq]
  exact and_congr (memB_iff _ _) (memB_iff _ _)
theorem cnt_cons (x : SV) (A : List SV) (a b : ByteArray) : Pr.cntB ((x :: A).map toPr) a b = Pr.cntB (A.map toPr) a b + if (inB x.its a && inB x.its b) = true then 1 else 0 := by
  unfold Pr.cntB
  rw [List.map_cons, List.countP_cons, has_is]
theorem cnt_tog (a b : ByteArray) : ∀ A : List SV, Pr.cntB (A.map toPr) a b ≤ Pr.cntB (A.map toPr) a a ∧ Pr.cntB (A.map toPr) a b ≤ Pr.cntB (A.map toPr) b b ∧ ((Pr.cntB (A.map toPr) a b = Pr.cntB (A.map toPr) a a ∧ Pr.cntB (A.map toPr) a b = Pr.cntB (A.map toPr) b b) ↔ togB A a b = true)
  | [] => by simp [Pr.cntB, togB]
  | x :: A => by
    obtain ⟨h1, h2, h3⟩ := cnt_tog a b A
    rw [cnt_cons, cnt_cons, cnt_cons]
    have e : togB (x :: A) a b = ((inB x.its a == inB x.its b) && togB A a b) := by unfold togB; rw [List.all_cons]
    rw [e]
    cases hp : inB x.its a <;> cases hq : inB x.its b
    · refine ⟨by simp; omega, by simp; omega, ?_⟩
      simpa using h3
    · refine ⟨by simp; omega, by simp; omega, ?_⟩
      simp; omega
    · refine ⟨by simp; omega, by simp; omega, ?_⟩
      simp; omega
    · refine ⟨by simp; omega, by simp; omega, ?_⟩
      simpa using h3
theorem cnt_turn (a b : ByteArray) : ∀ A : List SV, Pr.cntB (A.map toPr) a b = Pr.cntB (A.map toPr) b a
  | [] => rfl
  | x :: A => by rw [cnt_cons, cnt_cons, cnt_turn a b A, Bool.and_comm]
theorem cnt_pos {A : List SV} {a : ByteArray} {x : SV} (hx : x ∈ A) (h : a ∈ x.its) : 1 ≤ Pr.cntB (A.map toPr) a a := by
  unfold Pr.cntB
  have : 0 < (A.map toPr).countP fun y => Pr.hasB y a a := by
    rw [List.countP_pos_iff]
    refine ⟨toPr x, List.mem_map.2 ⟨x, hx, rfl⟩, ?_⟩
    rw [has_is]; simp [inB, h]
  omega
def kinN (C : ByteArray → ByteArray → Int) (a b : ByteArray) : Int := if a = b then 1 else C a b * C a b
def kinD (C : ByteArray → ByteArray → Int) (a b : ByteArray) : Int := if a = b then 1 else C a a * C b b
theorem sq_eq {N X Y : Nat} (h1 : N ≤ X) (h2 : N ≤ Y) (hx : 1 ≤ X) (hy : 1 ≤ Y) : N * N = X * Y ↔ (N = X ∧ N = Y) := by
  constructor
  · intro h
    have h3 : N * N ≤ N * Y := Nat.mul_le_mul_left _ h2
    have h4 : N * Y ≤ X * Y := Nat.mul_le_mul_right _ h1
    have h5 : N * Y = X * Y := by omega
    have h6 : N = X := Nat.eq_of_mul_eq_mul_right (by omega) h5
    subst h6
    have h7 : N * N = N * Y := h
    exact ⟨rfl, Nat.eq_of_mul_eq_mul_left (by omega) h7⟩
  · rintro ⟨rfl, rfl⟩; rfl
structure KinOk (A : List SV) (a b : ByteArray) (n d n' d' : Int) : Prop where
  may : mayB n d = true
  r1 : n ≤ 1000000
  r2 : d ≤ 1000000
  eq : n' = n ∧ d' = d
  le : decide (cmpR n d 1 1 ≤ 0) = true
  on : (cmpR n d 1 1 == 0) = togB A a b
theorem kin_ok {A : List SV} {a b : ByteArray} (hA : A.length ≤ 1000) (ha : 1 ≤ Pr.cntB (A.map toPr) a a) (hb : 1 ≤ Pr.cntB (A.map toPr) b b) :
    KinOk A a b (kinN (Pr.cntF (A.map toPr)) a b) (kinD (Pr.cntF (A.map toPr)) a b) (kinN (Pr.cntF (A.map toPr)) b a) (kinD (Pr.cntF (A.map toPr)) b a) := by
  obtain ⟨h1, h2, h3⟩ := cnt_tog a b A
  have hX := Pr.cntB_le (A.map toPr) a a
  have hY := Pr.cntB_le (A.map toPr) b b
  rw [List.length_map] at hX hY
  have e1 : kinN (Pr.cntF (A.map toPr)) b a = kinN (Pr.cntF (A.map toPr)) a b := by
    unfold kinN
    rw [Pr.cntF_is, Pr.cntF_is, cnt_turn b a A]
    by_cases e : a = b
    · rw [if_pos e, if_pos e.symm]
    · rw [if_neg e, if_neg (fun c => e c.symm)]
  have e2 : kinD (Pr.cntF (A.map toPr)) b a = kinD (Pr.cntF (A.map toPr)) a b := by
    unfold kinD
    by_cases e : a = b
    · rw [if_pos e, if_pos e.symm]
    · rw [if_neg e, if_neg (fun c => e c.symm), Int.mul_comm]
  have key : ∃ n d : Nat, kinN (Pr.cntF (A.map toPr)) a b = (n : Int) ∧ kinD (Pr.cntF (A.map toPr)) a b = (d : Int) ∧ 1 ≤ d ∧ d ≤ 1000000 ∧ n ≤ d ∧ (n = d ↔ togB A a b = true) := by
    unfold kinN kinD
    by_cases e : a = b
    · subst e
      rw [if_pos rfl]
      refine ⟨1, 1, rfl, rfl, by omega, by omega, by omega, ?_⟩
      rw [← h3]; simp
    · rw [if_neg e, if_neg e, Pr.cntF_is, Pr.cntF_is, Pr.cntF_is]
      refine ⟨_, _, (Int.natCast_mul _ _).symm, (Int.natCast_mul _ _).symm, Nat.mul_pos ha hb, ?_, Nat.mul_le_mul h1 h2, ?_⟩
      · have := Nat.mul_le_mul (Nat.le_trans hX hA) (Nat.le_trans hY hA); omega
      · rw [sq_eq h1 h2 ha hb, h3]
  obtain ⟨n, d, k1, k2, k3, k4, k5, k6⟩ := key
  rw [e1, e2, k1, k2]
  have hm : mayB (n : Int) (d : Int) = true := by unfold mayB; rw [decide_eq_true_eq]; omega
  have hc : cmpR (n : Int) (d : Int) 1 1 = cmpW n d := by
    rw [cmpR_mul]
    unfold ownN ownD
    rw [hm, if_pos rfl, if_pos rfl]
    have : mayB 1 1 = true := rfl
    rw [this, if_pos rfl, if_pos rfl]
    simp
  refine ⟨hm, by omega, by omega, ⟨rfl, rfl⟩, ?_, ?_⟩
  · rw [hc, decide_eq_true_eq, cmpW_le]; omega
  · rw [hc, Bool.eq_iff_iff, beq_iff_eq, cmpW_zero, ← k6]; omega
set_option maxRecDepth 20000 in
set_option maxHeartbeats 600000 in
theorem kin_any {w : World} {p : Nat} {C : Pr.CF} (h : Pr.PrAt w p C) (a b : ByteArray) (ha : a.size ≤ maxLen) (hb : b.size ≤ maxLen) (hx : 1 ≤ C a a ∧ C a a ≤ 1000) (hy : 1 ≤ C b b ∧ C b b ≤ 1000) (hn : 0 ≤ C a b ∧ C a b ≤ 1000) :
    Calls Try.prog 12 #[.pointer (some ⟨p, 0, none⟩), .string a, .string b] w fun e w' => e = .returned (.agg #[.int .i64 (kinN C a b), .int .i64 (kinD C a b)]) ∧ Below w.heap.size w w' := by
  have h := h.bel ((Below.refl w.heap.size w).alloc (Nat.le_refl _) (.cells #[.int .i64 0, .int .i64 0] 40))
  have H1 := Lib.hid (Pr.psingle_any h a ha)
  have H2 := Lib.hid (Pr.psingle_any h b hb)
  have H3 := Lib.hid (Pr.pcount_any h a b ha hb)
  have hnn : 0 ≤ C a b * C a b ∧ C a b * C a b ≤ 1000000 := ⟨Int.mul_nonneg hn.1 hn.1, by
    have := Int.mul_le_mul hn.2 hn.2 hn.1 (by omega : (0 : Int) ≤ 1000); omega⟩
  have hdd : 0 ≤ C a a * C b b ∧ C a a * C b b ≤ 1000000 := ⟨Int.mul_nonneg (by omega) (by omega), by
    have := Int.mul_le_mul hx.2 hy.2 (by omega) (by omega : (0 : Int) ≤ 1000); omega⟩
  have HB := Lib.hid (Below.refl w.heap.size w)
  by_cases e : a = b
  · have k1 : kinN C a b = 1 := by unfold kinN; rw [if_pos e]
    have k2 : kinD C a b = 1 := by unfold kinD; rw [if_pos e]
    rw [k1, k2]
    have u0 : (a.toList == b.toList) = true := by rw [bytesEq]; exact decide_eq_true e
    generalize C a a = x at *
    generalize C b b = y at *
    generalize C a b = n at *
    have u1 : (x == 0) = false := by simp; omega
    have u2 : (y == 0) = false := by simp; omega
    clear h k1 k2 H3 e
    go_enter Try.func12, Try.ntmps12
    go_wp2_with fail
    refine H1.out.mono ?_
    rintro e w1 ⟨rfl, rfl⟩
    go_wp2_with fail
    refine H2.out.mono ?_
    rintro e w1 ⟨rfl, rfl⟩
    go_wp2_with fail
    refine bodyPost_ret (v := .agg #[.int .i64 1, .int .i64 1]) (by simp [results, Try.results12, go_sem]) rfl ⟨rfl, ?_⟩
    first
      | exact (Below.refl _ _).alloc (Nat.le_refl _) _
      | exact ((((Below.refl _ _).alloc (Nat.le_refl _) _).setCell (Nat.le_refl _) _).setCell (Nat.le_refl _) _)
  · have k1 : kinN C a b = C a b * C a b := by unfold kinN; rw [if_neg e]
    have k2 : kinD C a b = C a a * C b b := by unfold kinD; rw [if_neg e]
    rw [k1, k2]
    have u0 : (a.toList == b.toList) = false := by rw [bytesEq]; exact decide_eq_false e
    generalize C a a = x at *
    generalize C b b = y at *
    generalize C a b = n at *
    have u1 : (x == 0) = false := by simp; omega
    have u2 : (y == 0) = false := by simp; omega
    clear h k1 k2 e
    go_enter Try.func12, Try.ntmps12
    go_wp2_with fail
    refine H1.out.mono ?_
    rintro e w1 ⟨rfl, rfl⟩
    go_wp2_with fail
    refine H2.out.mono ?_
    rintro e w1 ⟨rfl, rfl⟩
    go_wp2_with fail
    refine H3.out.mono ?_
    rintro e w1 ⟨rfl, rfl⟩
    go_wp2_with fail
    refine bodyPost_ret (v := .agg #[.int .i64 (n * n), .int .i64 (x * y)]) (by simp [results, Try.results12, go_sem]) rfl ⟨rfl, ?_⟩
    first
      | exact (Below.refl _ _).alloc (Nat.le_refl _) _
      | exact ((((Below.refl _ _).alloc (Nat.le_refl _) _).setCell (Nat.le_refl _) _).setCell (Nat.le_refl _) _)
end
end Go.Proofs.Ytbmjddmejmeknaa

/- The top's laws over sessions: named, visits; what the sessions of one person's visits are. -/
import Derived.Test.YtbmjddmejmeknaaEApart
import Derived.Test.YtbmjddmejmeknaaTop1
import Derived.Test.YtbmjddmejmeknaaQOf
namespace Go.Proofs.Ytbmjddmejmeknaa
open Go.RowKit Go.MapKept Go.Maps Go.ChangeShapes Go.WideShapes
open Pn (AddT atC atOk ats_at fewT)
set_option linter.unusedVariables false
set_option linter.unusedSimpArgs false
def vP : ByteArray := ⟨#[112]⟩
def vis (a : AddT) : Tri := (vP, ((a.2.1 : Nat) : Int), a.1)
def namedB (l : List AddT) : Bool := l.all fun a => okT (vP, 1, a.1)
theorem named_vis {l : List AddT} (h : namedB l = true) (ho : ∀ a ∈ l, atOk a) : ∀ a ∈ l, okT (vis a) = true := fun a ha => by
  have h1 := (okT_iff _).1 (List.all_eq_true.1 h a ha)
  rw [okT_iff]
  have h2 := (ho a ha).2.1
  unfold vis
  refine ⟨h1.1, h1.2.1, h1.2.2.1, h1.2.2.2.1, ?_, ?_⟩
  · show (0 : Int) ≤ ((a.2.1 : Nat) : Int); omega
  · show ((a.2.1 : Nat) : Int) ≤ 1099511627776; omega
def Lp (l : List AddT) : List Tri := addsT [] (l.map vis)
theorem Lp_ok (l : List AddT) : SOk (Lp l) := SOk.nil.adds _
theorem Lp_mem {l : List AddT} (h : ∀ a ∈ l, okT (vis a) = true) (x : Tri) : x ∈ Lp l ↔ ∃ a ∈ l, vis a = x := by
  unfold Lp
  rw [mem_adds]
  simp only [List.not_mem_nil, or_false, List.mem_map]
  constructor
  · exact fun h => h.1
  · rintro ⟨a, ha, rfl⟩
    exact ⟨⟨a, ha, rfl⟩, h a ha⟩
theorem Lp_rev {l : List AddT} : Lp l.reverse = Lp l := by
  refine (Lp_ok _).ext (Lp_ok _) (fun x => ?_)
  unfold Lp
  rw [mem_adds, mem_adds]
  simp
theorem Lp_len (l : List AddT) : (Lp l).length ≤ l.length := by
  have hn : (Lp l).Nodup := RiseG.nodup ordA (Lp_ok l).rise
  have := nodup_len hn (m := l.map vis) (fun x hx => by
    unfold Lp at hx
    rw [mem_adds] at hx
    rcases hx with h | h
    · exact h.1
    · cases h)
  rwa [List.length_map] at this
theorem run_its (gap : Int) : ∀ (L : List Tri) (x z : Se), z ∈ runS gap x L → ∀ i ∈ z.its, i ∈ x.its ∨ ∃ b ∈ L, i = b.2.2
  | [], x, z, h, i, hi => by simp [runS] at h; rw [h] at hi; exact .inl hi
  | a :: L, x, z, h, i, hi => by
    rw [runS] at h
    by_cases e : joinB gap x a
    · rw [if_pos e] at h
      rcases run_its gap L _ z h i hi with h | ⟨b, hb, h⟩
      · have h' : i ∈ putB x.its a.2.2 := h
        rw [putB_mem] at h'
        rcases h' with h' | h'
        · exact .inr ⟨a, by simp, h'⟩
        · exact .inl h'
      · exact .inr ⟨b, by simp [hb], h⟩
    · rw [if_neg e] at h
      rcases List.mem_cons.1 h with rfl | h
      · exact .inl hi
      · rcases run_its gap L _ z h i hi with h | ⟨b, hb, h⟩
        · have h' : i ∈ [a.2.2] := h
          exact .inr ⟨a, by simp, List.mem_singleton.1 h'⟩
        · exact .inr ⟨b, by simp [hb], h⟩
theorem run_per (gap : Int) (p : ByteArray) : ∀ (L : List Tri) (x z : Se), x.p = p → (∀ b ∈ L, b.1 = p) → z ∈ runS gap x L → z.p = p
  | [], x, z, hx, hL, h => by simp [runS] at h; rw [h]; exact hx
  | a :: L, x, z, hx, hL, h => by
    rw [runS] at h
    by_cases e : joinB gap x a
    · rw [if_pos e] at h
      exact run_per gap p L (extS x a) z hx (fun b hb => hL b (by simp [hb])) h
    · rw [if_neg e] at h
      rcases List.mem_cons.1 h with rfl | h
      · exact hx
      · exact run_per gap p L (newS a) z (hL a (by simp)) (fun b hb => hL b (by simp [hb])) h
/-- what is known of the sessions of one person's visits -/
structure Fine (l : List AddT) (gap : Int) (S : List Se) : Prop where
  ap : S.Pairwise fun x y => gap < y.f - x.t
  fi : ∀ z ∈ S, FineS z
  rg : ∀ z ∈ S, (0 ≤ z.f ∧ z.f ≤ 65535) ∧ (0 ≤ z.t ∧ z.t ≤ 65535)
  sz : ∀ z ∈ S, z.its.length ≤ 100 ∧ ∀ i ∈ z.its, i.size ≤ 24
  ln : S.length ≤ 100
  on : ∀ a ∈ l, S.countP (fun z => decide (z.f ≤ ((a.2.1 : Nat) : Int)) && decide (((a.2.1 : Nat) : Int) ≤ z.t)) = 1
theorem count_le_one {S : List Se} {gap : Int} (hg : 0 ≤ gap) (q : Int) (hap : S.Pairwise fun x y => gap < y.f - x.t) : S.countP (fun z => decide (z.f ≤ q) && decide (q ≤ z.t)) ≤ 1 := by
  induction S with
  | nil => simp
  | cons x S ih =>
    have h := List.pairwise_cons.1 hap
    rw [List.countP_cons]
    by_cases e : (decide (x.f ≤ q) && decide (q ≤ x.t)) = true
    · have h0 : S.countP (fun z => decide (z.f ≤ q) && decide (q ≤ z.t)) = 0 := by
        rw [List.countP_eq_zero]
        intro y hy hc
        have := h.1 y hy
        simp only [Bool.and_eq_true, decide_eq_true_eq] at e hc
        omega
      rw [h0, if_pos e]
      omega
    · rw [if_neg e]
      have := ih h.2
      omega
theorem fine_of {l : List AddT} {gap : Int} (hg : 0 ≤ gap) (hl : l.length ≤ 60) (ho : ∀ a ∈ l, okT (vis a) = true) (h16 : ∀ a ∈ l, atOk a) : Fine l gap (allS gap (Lp l)) := by
  obtain ⟨h1, h2, h3⟩ := all_apart hg (Lp_ok l).rise
  have hlen := Lp_len l
  have hp : ∀ z ∈ allS gap (Lp l), z.p = vP := fun z hz => by
    have hall : ∀ b ∈ Lp l, b.1 = vP := fun b hb => by
      obtain ⟨a, _, rfl⟩ := (Lp_mem ho b).1 hb
      rfl
    cases hL : Lp l with
    | nil => rw [hL] at hz; simp [allS] at hz
    | cons a L =>
      rw [hL, all_cons] at hz
      rw [hL] at hall
      exact run_per gap vP L (newS a) z (hall a (by simp)) (fun b hb => hall b (by simp [hb])) hz
  have hits : ∀ z ∈ allS gap (Lp l), ∀ i ∈ z.its, ∃ b ∈ Lp l, i = b.2.2 := fun z hz i hi => by
    cases hL : Lp l with
    | nil => rw [hL] at hz; simp [allS] at hz
    | cons a L =>
      rw [hL, all_cons] at hz
      rcases run_its gap L (newS a) z hz i hi with h | ⟨b, hb, h⟩
      · have h' : i ∈ [a.2.2] := h
        exact ⟨a, by simp, List.mem_singleton.1 h'⟩
      · exact ⟨b, by simp [hb], h⟩
  have hrg := all_rng (gap := gap) (fun q => 0 ≤ q ∧ q ≤ 65535) (L := Lp l) (fun b hb => by
    obtain ⟨a, ha, rfl⟩ := (Lp_mem ho b).1 hb
    have := (h16 a ha).2.1
    show (0 : Int) ≤ ((a.2.1 : Nat) : Int) ∧ ((a.2.1 : Nat) : Int) ≤ 65535
    omega)
  have hap : (allS gap (Lp l)).Pairwise fun x y => gap < y.f - x.t := by
    refine List.Pairwise.imp_of_mem (fun {x y} hx hy h => ?_) h1
    rcases h with h | h
    · rw [hp x hx, hp y hy] at h
      exact absurd h (ltB_irrefl _)
    · exact h.2
  refine ⟨hap, h2, fun z hz => hrg z hz, fun z hz => ⟨?_, fun i hi => ?_⟩, ?_, fun a ha => ?_⟩
  · have := nodup_len (h2 z hz).ri.nodup (m := (Lp l).map fun b => b.2.2) (fun i hi => by
      obtain ⟨b, hb, rfl⟩ := hits z hz i hi
      exact List.mem_map.2 ⟨b, hb, rfl⟩)
    rw [List.length_map] at this
    omega
  · obtain ⟨b, hb, rfl⟩ := hits z hz i hi
    obtain ⟨a, ha, rfl⟩ := (Lp_mem ho b).1 hb
    exact ((okT_iff _).1 (ho a ha)).2.2.2.1
  · have := all_le gap (Lp l)
    omega
  · have hle := count_le_one hg ((a.2.1 : Nat) : Int) hap
    have hpos : 0 < (allS gap (Lp l)).countP (fun z => decide (z.f ≤ ((a.2.1 : Nat) : Int)) && decide (((a.2.1 : Nat) : Int) ≤ z.t)) := by
      rw [List.countP_pos_iff]
      have hone := h3 (vis a) ((Lp_mem ho _).2 ⟨a, ha, rfl⟩)
      rcases Classical.em (∃ z ∈ allS gap (Lp l), covS z (vis a)) with ⟨z, hz, hc⟩ | hno
      · exact ⟨z, hz, by
          have := hc.2
          simp only [Bool.and_eq_true, decide_eq_true_eq]
          exact this⟩
      · rw [cntS_zero (fun z hz hc => hno ⟨z, hz, hc⟩)] at hone
        cases hone
    omega
set_option maxRecDepth 20000 in
set_option maxHeartbeats 2000000 in
theorem named_any (b : Option Addr) (cap : Nat) (l : List AddT) (w : World) (h : InW w b 3 (l.map atC)) (hm : cap ≤ maxLen) (hl : l.length ≤ cap) (ho : ∀ a ∈ l, atOk a) :
    Calls Try.prog 7 #[.slice b l.length cap] w fun e w' => e = .returned (.bool (namedB l)) ∧ Below w.heap.size w w' := by
  obtain ⟨r, hr⟩ : ∃ r, namedB l = r := ⟨_, rfl⟩
  rw [hr]
  have HR := Lib.hid hr
  have HIW := Lib.hid h
  have HO := Lib.hid ho
  clear hr h ho
  unfold maxLen at hm
  generalize hn : l.length = n at *
  have Hn := Lib.hid hn
  clear hn
  have HA0 : Hid ((l.take 0).all (fun a => okT (vP, 1, a.1)) = true) := Lib.hid rfl
  have BL0 := Lib.hid (Below.refl w.heap.size w)
  go_enter Try.func7, Try.ntmps7
  go_wp2_with fail
  go_loopw [7] (fun c wr => ∃ k : Nat, k ≤ n ∧ c = .int .i64 k ∧ Hid (Below w.heap.size w wr) ∧ Hid ((l.take k).all (fun a => okT (vP, 1, a.1)) = true)) (fun c _ => n - (intOf c).toNat)
  case atStart => exact ⟨0, by omega, rfl, BL0, HA0⟩
  case round =>
    obtain ⟨k, hk, rfl, HB, HA⟩ := hrel
    clear BL0 HA0
    by_cases hlt : k < n
    · obtain ⟨a, ha⟩ : ∃ a, l[k]? = some a := ⟨l[k]'(by have := Hn.out; omega), List.getElem?_eq_getElem _⟩
      obtain ⟨B, off, rfl, hB, d0, d1, d2⟩ := ats_at HIW.out ha
      have c0 := (HB.out.cell (p := ⟨B, off + k * 3, none⟩) hB).trans d0
      have c1 := (HB.out.cell (p := ⟨B, off + k * 3 + 1, none⟩) hB).trans d1
      have c2 := (HB.out.cell (p := ⟨B, off + k * 3 + 2, none⟩) hB).trans d2
      have hsz : a.1.size ≤ maxLen := (HO.out a (List.mem_of_getElem? ha)).1
      have HS := Lib.hid ha
      have hi0 : (0 : Int) ≤ (k : Int) := by omega
      have hi1 : (k : Int) < (n : Int) := by omega
      have HBA : Hid (Below w.heap.size w (wr.alloc (.cells #[.string a.1, .int .u16 (a.2.1 : Int), .int .u16 (a.2.2 : Int)] 36))) := Lib.hid (HB.out.trans (((Below.refl _ _).alloc (Nat.le_refl _) _).mono HB.out.size))
      have hb0 := Bk.new wr [.string a.1, .int .u16 (a.2.1 : Int), .int .u16 (a.2.2 : Int)] 36
      have HBK := Lib.hid hb0
      obtain ⟨r1, hr1⟩ : ∃ r1, okT (vP, 1, a.1) = r1 := ⟨_, rfl⟩
      have HR1 := Lib.hid hr1
      clear ha d0 d1 d2 hB hr1
      go_wp2_with fail
      generalize wr.alloc (.cells #[.string a.1, .int .u16 (a.2.1 : Int), .int .u16 (a.2.2 : Int)] 36) = W at *
      generalize wr.heap.size = bx at *
      have kk0 : W.drew.cell? ⟨bx, 0, none⟩ = some (.string a.1) := HBK.out.cell 0
      have NW := Lib.hid (ses_new 1 W.drew (by unfold I64; omega))
      clear c0 c1 c2
      go_region_held3 (fun X => X.cell? ⟨bx, 0, none⟩ = some (.string a.1)) (first | assumption | exact kk0 | exact kk1 | exact kk2 | go_keep)
        (first
          | (go_at_call 19
             (with_reducible refine NW.out.mono ?_)
             rintro e w2 ⟨rfl, s2, b2⟩
             have S2 := Lib.hid s2
             have B2 := Lib.hid b2
             have kk1 : w2.cell? ⟨bx, 0, none⟩ = some (.string a.1) := (HBK.out.bel ((Below.refl W.heap.size W).drew.trans b2)).cell 0
             have AD : Hid (Calls Try.prog 20 #[.pointer (some ⟨W.heap.size + 1, 0, none⟩), .string ⟨#[112]⟩, .int .i64 1, .string a.1] w2 fun e w' => e = .returned (.bool r1) ∧ Fr (fun b => b ∈ [W.heap.size + 1, W.heap.size]) w2 w') := Lib.hid (by
               have h := add_any s2 vP a.1 1 (by decide) hsz (by unfold I64; omega) (by simp)
               rw [HR1.out] at h
               exact h.mono (fun e w' q => ⟨q.1, q.2.2⟩))
             clear s2 b2)
          | (go_at_call 20
             (with_reducible refine AD.out.mono ?_)
             rintro e w3 ⟨rfl, f3⟩
             have HF3 := Lib.hid f3
             have kk2 : w3.cell? ⟨bx, 0, none⟩ = some (.string a.1) := ((HBK.out.bel ((Below.refl W.heap.size W).drew.trans B2.out)).fr f3 (fun hc => by
               have hz := HBK.out.lt
               have hz2 : W.drew.heap.size = W.heap.size := rfl
               simp only [List.mem_cons, List.not_mem_nil, or_false] at hc
               omega)).cell 0
             clear f3)
          | fail)
      have B3 : Hid (Below w.heap.size w w3) := Lib.hid (by
        have h1 : Below w.heap.size w w2 := HBA.out.trans (((Below.refl W.heap.size W).drew.trans B2.out).mono HBA.out.size)
        have hz2 : W.drew.heap.size = W.heap.size := rfl
        have hz := HBA.out.size
        exact h1.trans (HF3.out.below h1.size (fun x hx => by
          simp only [List.mem_cons, List.not_mem_nil, or_false] at hx
          omega)))
      clear S2 B2 AD NW HF3 kk1 kk2 HBA
      cases r1 with
      | true =>
        have HA2 : Hid ((l.take (k + 1)).all (fun a => okT (vP, 1, a.1)) = true) := Lib.hid (by
          rw [List.take_add_one, HS.out, List.all_append, HA.out]
          simp [HR1.out])
        clear HA
        go_wp2_with fail
        go_roundw
        case rel => exact ⟨k + 1, by omega, by go_num, B3, HA2⟩
        case measure => simp [intOf]; omega
      | false =>
        have e : r = false := by
          rw [← HR.out, namedB, List.all_eq_false]
          exact ⟨a, List.mem_of_getElem? HS.out, by rw [HR1.out]; decide⟩
        subst e
        go_wp2_with fail
        go_ret
        exact ⟨rfl, B3.out⟩
    · have e : r = true := by
        have h1 := HA.out
        rw [List.take_of_length_le (by rw [Hn.out]; omega)] at h1
        rw [← HR.out]; exact h1
      subst e
      clear HA
      go_wp2_with fail
      go_ret
      exact ⟨rfl, HB.out⟩
/-- what visits has made so far -/
structure VisI (w wr : World) (s : Nat) (g : Int) (L : List Tri) : Prop where
  se : ∃ B, SesAt wr s B g L ∧ ∀ b ∈ B, w.heap.size ≤ b
  bl : Below w.heap.size w wr
theorem VisI.bel {w wr w' : World} {s : Nat} {g : Int} {L : List Tri} (h : VisI w wr s g L) (hb : Below wr.heap.size wr w') : VisI w w' s g L := by
  obtain ⟨B, h1, h2⟩ := h.se
  exact ⟨⟨B, h1.bel hb, h2⟩, h.bl.trans (hb.mono h.bl.size)⟩
theorem VisI.add {w wr : World} {s : Nat} {g : Int} {L : List Tri} (h : VisI w wr s g L) (k : ByteArray) (t : Int) (hk : k.size ≤ maxLen) (ht : I64 t) (hn : L.length + 1 ≤ 100000) :
    Calls Try.prog 20 #[.pointer (some ⟨s, 0, none⟩), .string ⟨#[112]⟩, .int .i64 t, .string k] wr fun e w' => (∃ r, e = .returned (.bool r)) ∧ VisI w w' s g (addT L (vP, t, k)) := by
  obtain ⟨B, h1, h2⟩ := h.se
  refine (add_any h1 vP k t (by decide) hk ht hn).mono ?_
  rintro e w' ⟨rfl, ⟨B', h3, h4⟩, h5⟩
  have hz := h.bl.size
  refine ⟨⟨_, rfl⟩, ⟨B', h3, fun b hb => ?_⟩, h.bl.trans (h5.below h.bl.size (fun b hb => h2 b hb))⟩
  rcases h4 b hb with q | q
  · exact h2 b q
  · omega
set_option maxRecDepth 20000 in
set_option maxHeartbeats 2000000 in
theorem visits_fwd (b : Option Addr) (cap : Nat) (l : List AddT) (g : Int) (w : World) (h : InW w b 3 (l.map atC)) (hm : cap ≤ maxLen) (hl : l.length ≤ cap) (ho : ∀ a ∈ l, atOk a) (h60 : l.length ≤ 60) (hg : I64 g) (hgg : gapOf g = g) :
    Calls Try.prog 8 #[.slice b l.length cap, .int .i64 g, .bool false] w fun e w' => ∃ s, e = .returned (.pointer (some ⟨s, 0, none⟩)) ∧ VisI w w' s g (Lp l) := by
  have HIW := Lib.hid h
  have HO := Lib.hid ho
  have NW := Lib.hid (ses_new g w hg)
  rw [hgg] at NW
  clear h ho hg hgg
  unfold maxLen at hm
  generalize hn : l.length = n at *
  have Hn := Lib.hid hn
  clear hn
  go_enter Try.func8, Try.ntmps8
  go_wp2_with fail
  refine NW.out.mono ?_
  rintro e w1 ⟨rfl, s1, b1⟩
  have V1 : Hid (VisI w w1 (w.heap.size + 1) g (addsT [] ((l.take 0).map vis))) := Lib.hid ⟨⟨_, s1, fun x hx => by
    simp only [List.mem_cons, List.not_mem_nil, or_false] at hx
    omega⟩, b1⟩
  clear s1 b1 NW
  generalize hs : w.heap.size + 1 = s at *
  clear hs
  go_wp2_with fail
  go_loopw [14] (fun c wr => ∃ k : Nat, k ≤ n ∧ c = .int .i64 k ∧ Hid (VisI w wr s g (addsT [] ((l.take k).map vis)))) (fun c _ => n - (intOf c).toNat)
  case atStart => exact ⟨0, by omega, rfl, V1⟩
  case round =>
    obtain ⟨k, hk, rfl, HV⟩ := hrel
    clear V1
    by_cases hlt : k < n
    · obtain ⟨a0, ha0⟩ : ∃ a, l[k]? = some a := ⟨l[k]'(by have := Hn.out; omega), List.getElem?_eq_getElem _⟩
      obtain ⟨B, off, rfl, hB, d0, d1, d2⟩ := ats_at HIW.out ha0
      have c0 := (HV.out.bl.cell (p := ⟨B, off + k * 3, none⟩) hB).trans d0
      have c1 := (HV.out.bl.cell (p := ⟨B, off + k * 3 + 1, none⟩) hB).trans d1
      have c2 := (HV.out.bl.cell (p := ⟨B, off + k * 3 + 2, none⟩) hB).trans d2
      have hsz : a0.1.size ≤ maxLen := (HO.out a0 (List.mem_of_getElem? ha0)).1
      have h16 := (HO.out a0 (List.mem_of_getElem? ha0)).2.1
      have hI : I64 ((a0.2.1 : Nat) : Int) := by unfold I64; omega
      have hls : l[k]? = some a0 := ha0
      have hst : addsT [] ((l.take (k + 1)).map vis) = addT (addsT [] ((l.take k).map vis)) (vis a0) := by
        rw [List.take_add_one, hls, Option.toList_some, List.map_append, List.map_cons, List.map_nil, addsT_snoc]
      have hln : (addsT [] ((l.take k).map vis)).length + 1 ≤ 100000 := by
        have h1 := Lp_len (l.take k)
        unfold Lp at h1
        have h2 := List.length_take (l := l) (i := k)
        omega
      have HST := Lib.hid hst
      have hi0 : (0 : Int) ≤ (k : Int) := by omega
      have hi1 : (k : Int) < (n : Int) := by omega
      have q16 : IntKind.i64.wrap (a0.2.1 : Int) = (a0.2.1 : Int) := IntWalk.i64_in _ (by omega)
      have q16' : RowKit.wrap64 (a0.2.1 : Int) = (a0.2.1 : Int) := IntWalk.wrap64_in _ (by omega)
      have HVA := Lib.hid (HV.out.bel ((Below.refl wr.heap.size wr).alloc (Nat.le_refl _) (.cells #[.string a0.1, .int .u16 (a0.2.1 : Int), .int .u16 (a0.2.2 : Int)] 36)))
      have AD := Lib.hid (HVA.out.add a0.1 (a0.2.1 : Int) hsz hI hln)
      clear ha0 d0 d1 d2 hB hst hls hln hsz HV hI
      go_wp2_with fail
      refine AD.out.mono ?_
      rintro e w4 ⟨⟨r, rfl⟩, v4⟩
      have V4 : Hid (VisI w w4 s g (addsT [] ((l.take (k + 1)).map vis))) := Lib.hid (by rw [HST.out]; exact v4)
      clear v4 AD HVA HST c0 c1 c2 q16 q16'
      go_wp2_with fail
      go_roundw
      case rel => exact ⟨k + 1, by omega, by go_num, V4⟩
      case measure => simp [intOf]; omega
    · have HE : Hid (VisI w wr s g (Lp l)) := Lib.hid (by
        have h := HV.out
        rw [List.take_of_length_le (by have := Hn.out; omega)] at h
        exact h)
      clear HV
      go_wp2_with fail
      go_ret
      exact ⟨s, rfl, HE.out⟩
set_option maxRecDepth 20000 in
set_option maxHeartbeats 2000000 in
theorem visits_back (b : Option Addr) (cap : Nat) (l : List AddT) (g : Int) (w : World) (h : InW w b 3 (l.map atC)) (hm : cap ≤ maxLen) (hl : l.length ≤ cap) (ho : ∀ a ∈ l, atOk a) (h60 : l.length ≤ 60) (hg : I64 g) (hgg : gapOf g = g) :
    Calls Try.prog 8 #[.slice b l.length cap, .int .i64 g, .bool true] w fun e w' => ∃ s, e = .returned (.pointer (some ⟨s, 0, none⟩)) ∧ VisI w w' s g (Lp l) := by
  have HIW := Lib.hid h
  have HO := Lib.hid ho
  have NW := Lib.hid (ses_new g w hg)
  rw [hgg] at NW
  clear h ho hg hgg
  unfold maxLen at hm
  generalize hn : l.length = n at *
  have Hn := Lib.hid hn
  clear hn
  go_enter Try.func8, Try.ntmps8
  go_wp2_with fail
  refine NW.out.mono ?_
  rintro e w1 ⟨rfl, s1, b1⟩
  have V1 : Hid (VisI w w1 (w.heap.size + 1) g (addsT [] ((l.reverse.take 0).map vis))) := Lib.hid ⟨⟨_, s1, fun x hx => by
    simp only [List.mem_cons, List.not_mem_nil, or_false] at hx
    omega⟩, b1⟩
  clear s1 b1 NW
  generalize hs : w.heap.size + 1 = s at *
  clear hs
  go_wp2_with fail
  go_loopw [14] (fun c wr => ∃ k : Nat, k ≤ n ∧ c = .int .i64 k ∧ Hid (VisI w wr s g (addsT [] ((l.reverse.take k).map vis)))) (fun c _ => n - (intOf c).toNat)
  case atStart => exact ⟨0, by omega, rfl, V1⟩
  case round =>
    obtain ⟨k, hk, rfl, HV⟩ := hrel
    clear V1
    by_cases hlt : k < n
    · obtain ⟨a0, ha0⟩ : ∃ a, l[k]? = some a := ⟨l[k]'(by have := Hn.out; omega), List.getElem?_eq_getElem _⟩
      obtain ⟨B, off, rfl, hB, d0, d1, d2⟩ := ats_at HIW.out ha0
      have c0 := (HV.out.bl.cell (p := ⟨B, off + k * 3, none⟩) hB).trans d0
      have c1 := (HV.out.bl.cell (p := ⟨B, off + k * 3 + 1, none⟩) hB).trans d1
      have c2 := (HV.out.bl.cell (p := ⟨B, off + k * 3 + 2, none⟩) hB).trans d2
      obtain ⟨a, ha⟩ : ∃ a, l[n - 1 - k]? = some a := ⟨l[n - 1 - k]'(by have := Hn.out; omega), List.getElem?_eq_getElem _⟩
      obtain ⟨B', off', hbb, hB', f0, f1, f2⟩ := ats_at HIW.out ha
      cases hbb
      have hbal : Below w.heap.size w (wr.alloc (.cells #[.string a0.1, .int .u16 (a0.2.1 : Int), .int .u16 (a0.2.2 : Int)] 36)) := HV.out.bl.trans (((Below.refl _ _).alloc (Nat.le_refl _) _).mono HV.out.bl.size)
      have e0 := (hbal.cell (p := ⟨B, off + (n - 1 - k) * 3, none⟩) hB').trans f0
      have e1 := (hbal.cell (p := ⟨B, off + (n - 1 - k) * 3 + 1, none⟩) hB').trans f1
      have e2 := (hbal.cell (p := ⟨B, off + (n - 1 - k) * 3 + 2, none⟩) hB').trans f2
      have hj0 : (0 : Int) ≤ ((n - 1 - k : Nat) : Int) := by omega
      have hj1 : ((n - 1 - k : Nat) : Int) < (n : Int) := by omega
      have hbx0 : B ≠ wr.heap.size := by have := HV.out.bl.size; omega
      have hbx1 : wr.heap.size ≠ B := fun e => hbx0 e.symm
      have q1 : RowKit.wrap64 ((n : Int) - 1) = ((n - 1 : Nat) : Int) := by rw [IntWalk.wrap64_in _ (by omega)]; omega
      have q2 : RowKit.wrap64 (((n - 1 : Nat) : Int) - (k : Int)) = ((n - 1 - k : Nat) : Int) := by rw [IntWalk.wrap64_in _ (by omega)]; omega
      have hsz : a.1.size ≤ maxLen := (HO.out a (List.mem_of_getElem? ha)).1
      have h16 := (HO.out a (List.mem_of_getElem? ha)).2.1
      have hI : I64 ((a.2.1 : Nat) : Int) := by unfold I64; omega
      have hls : l.reverse[k]? = some a := by rw [List.getElem?_reverse (by have := Hn.out; omega), Hn.out]; exact ha
      have hst : addsT [] ((l.reverse.take (k + 1)).map vis) = addT (addsT [] ((l.reverse.take k).map vis)) (vis a) := by
        rw [List.take_add_one, hls, Option.toList_some, List.map_append, List.map_cons, List.map_nil, addsT_snoc]
      have hln : (addsT [] ((l.reverse.take k).map vis)).length + 1 ≤ 100000 := by
        have h1 := Lp_len (l.reverse.take k)
        unfold Lp at h1
        have h2 := List.length_take (l := l.reverse) (i := k)
        omega
      have HST := Lib.hid hst
      have hi0 : (0 : Int) ≤ (k : Int) := by omega
      have hi1 : (k : Int) < (n : Int) := by omega
      have q16 : IntKind.i64.wrap (a.2.1 : Int) = (a.2.1 : Int) := IntWalk.i64_in _ (by omega)
      have q16' : RowKit.wrap64 (a.2.1 : Int) = (a.2.1 : Int) := IntWalk.wrap64_in _ (by omega)
      have HVA := Lib.hid (HV.out.bel ((Below.refl wr.heap.size wr).alloc (Nat.le_refl _) (.cells #[.string a.1, .int .u16 (a.2.1 : Int), .int .u16 (a.2.2 : Int)] 36)))
      have AD := Lib.hid (HVA.out.add a.1 (a.2.1 : Int) hsz hI hln)
      clear ha0 d0 d1 d2 hB hst hls hln hsz HV hI hbal ha f0 f1 f2 hB'
      go_wp2_with fail
      refine AD.out.mono ?_
      rintro e w4 ⟨⟨r, rfl⟩, v4⟩
      have V4 : Hid (VisI w w4 s g (addsT [] ((l.reverse.take (k + 1)).map vis))) := Lib.hid (by rw [HST.out]; exact v4)
      clear v4 AD HVA HST c0 c1 c2 q16 q16' e0 e1 e2
      go_wp2_with fail
      go_roundw
      case rel => exact ⟨k + 1, by omega, by go_num, V4⟩
      case measure => simp [intOf]; omega
    · have HE : Hid (VisI w wr s g (Lp l)) := Lib.hid (by
        have h := HV.out
        rw [List.take_of_length_le (by rw [List.length_reverse]; have := Hn.out; omega)] at h
        rw [← Lp_rev]
        exact h)
      clear HV
      go_wp2_with fail
      go_ret
      exact ⟨s, rfl, HE.out⟩
end Go.Proofs.Ytbmjddmejmeknaa

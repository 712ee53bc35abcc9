/- Contracts that only read: Single, Count, Items, Near; things of a session. -/
import Derived.Test.YtbmjddmejmeknaaQKind
namespace Go.Proofs.Ytbmjddmejmeknaa.Pr
open Go.RowKit Go.MapKept Go.Maps Go.ChangeShapes Go.WideShapes Go.Shelf Go.Sort
set_option linter.unusedVariables false
set_option linter.unusedSimpArgs false
/-! ### slices.Compact -/
theorem compact_mem (zs : List (List UInt8)) (x : List UInt8) : x ∈ Lib.compact zs ↔ x ∈ zs := by
  unfold Lib.compact Lib.compactUpTo
  simp only [List.mem_map, List.mem_filter, List.mem_range]
  constructor
  · rintro ⟨j, ⟨hj, _⟩, rfl⟩
    rw [getElem!_pos zs.toArray j (by simpa using hj)]
    simp
  · intro hx
    obtain ⟨j, hj, rfl⟩ := List.mem_iff_getElem.1 hx
    have key : ∀ j (hj : j < zs.length), ∃ a, (a < zs.length ∧ Lib.keeps zs.toArray a = true) ∧ zs.toArray[a]! = zs[j] := by
      intro j
      induction j with
      | zero => exact fun hj => ⟨0, ⟨hj, by simp [Lib.keeps]⟩, by rw [getElem!_pos zs.toArray 0 (by simpa using hj)]; simp⟩
      | succ j ih =>
        intro hj
        by_cases h : zs[j + 1] = zs[j]
        · obtain ⟨a, h1, h2⟩ := ih (by omega)
          exact ⟨a, h1, by rw [h2, h]⟩
        · refine ⟨j + 1, ⟨hj, ?_⟩, by rw [getElem!_pos zs.toArray (j + 1) (by simpa using hj)]; simp⟩
          refine Lib.keeps_pos ?_
          rw [getElem!_pos zs.toArray (j + 1) (by simpa using hj), getElem!_pos zs.toArray (j + 1 - 1) (by simp; omega)]
          simpa using h
    exact key j hj
theorem compact_rise {zs : List (List UInt8)} (h : zs.Pairwise (fun a b => a ≤ b)) : (Lib.compact zs).Pairwise (fun a b => a < b) := by
  unfold Lib.compact Lib.compactUpTo
  rw [List.pairwise_map]
  have h1 : ((List.range zs.length).filter (Lib.keeps zs.toArray)).Pairwise (fun a b => a < b) := (List.pairwise_lt_range (n := zs.length)).filter _
  refine List.Pairwise.imp_of_mem (R := fun a b => a < b) (fun {a b} ha hb hab => ?_) h1
  have ha' := List.mem_filter.1 ha
  have hb' := List.mem_filter.1 hb
  have la := List.mem_range.1 ha'.1
  have lb := List.mem_range.1 hb'.1
  have hk := hb'.2
  unfold Lib.keeps at hk
  simp only [decide_eq_true_eq] at hk
  have hne : zs.toArray[b]! ≠ zs.toArray[b - 1]! := hk.resolve_left (by omega)
  rw [getElem!_pos zs.toArray b (by simpa using lb), getElem!_pos zs.toArray (b - 1) (by simp; omega)] at hne
  rw [getElem!_pos zs.toArray a (by simpa using la), getElem!_pos zs.toArray b (by simpa using lb)]
  simp only [List.getElem_toArray] at hne ⊢
  have hle : ∀ i j (hi : i < zs.length) (hj : j < zs.length), i ≤ j → zs[i] ≤ zs[j] := fun i j hi hj hij => by
    rcases Nat.lt_or_ge i j with h' | h'
    · exact List.pairwise_iff_getElem.1 h i j hi hj h'
    · have : i = j := by omega
      subst this
      exact List.le_refl _
  have h2 := hle a (b - 1) la (by omega) (by omega)
  have h3 := hle (b - 1) b (by omega) lb (by omega)
  refine List.not_le.1 (fun h4 => hne ?_)
  exact List.le_antisymm (List.le_trans h4 h2) h3
def ofDat (l : List UInt8) : ByteArray := ⟨l.toArray⟩
theorem dat_ofDat (l : List UInt8) : dat (ofDat l) = l := by simp [dat, ofDat]
theorem ofDat_dat (s : ByteArray) : ofDat (dat s) = s := by cases s; simp [dat, ofDat]
def compB (l : List ByteArray) : List ByteArray := (Lib.compact (l.map dat)).map ofDat
theorem compB_mem (l : List ByteArray) (x : ByteArray) : x ∈ compB l ↔ x ∈ l := by
  unfold compB
  rw [List.mem_map]
  constructor
  · rintro ⟨a, ha, rfl⟩
    obtain ⟨s, hs, rfl⟩ := List.mem_map.1 ((compact_mem _ _).1 ha)
    rw [ofDat_dat]; exact hs
  · intro hx
    exact ⟨dat x, (compact_mem _ _).2 (List.mem_map.2 ⟨x, hx, rfl⟩), ofDat_dat x⟩
theorem sortB_le (l : List ByteArray) : (sortB l).Pairwise (fun a b => dat a ≤ dat b) := by
  have h1 : (l.mergeSort (fun a b => decide (a.data.toList ≤ b.data.toList))).Pairwise (fun a b => decide (a.data.toList ≤ b.data.toList) = true) := List.pairwise_mergeSort
    (fun a b c h1 h2 => by simp only [decide_eq_true_eq] at *; exact List.le_trans h1 h2)
    (fun a b => by simp only [Bool.or_eq_true, decide_eq_true_eq]; exact List.le_total _ _) l
  exact h1.imp (fun h => by simpa [dat] using h)
theorem compB_rise (l : List ByteArray) : Rise (compB (sortB l)) := by
  unfold compB Rise
  rw [List.pairwise_map]
  have := compact_rise (zs := (sortB l).map dat) (by rw [List.pairwise_map]; exact sortB_le l)
  exact this.imp (fun {a b} h => by
    unfold ltB
    have e1 : (ofDat a).data.toList = a := dat_ofDat a
    have e2 : (ofDat b).data.toList = b := dat_ofDat b
    rw [e1, e2]; exact h)
theorem grow_nil (W : World) : grow W #[] = W := by unfold grow; simp
theorem compact_any {v : Value} {l : List ByteArray} {w : World} (h : TextsAt w v l) (hl : l.length ≤ 1048576) :
    Calls Try.prog 51 #[v] w fun e w' => ∃ v', e = .returned v' ∧ TextsAt w' v' (compB l) ∧ v'.ownBlock = v.ownBlock ∧ Fr (fun b => v.ownBlock = some b) w w' := by
  rcases h.2 with ⟨rfl, h0⟩ | ⟨g, cap, cur, rfl, hbase, hb, h1, h2, h3, h4⟩
  · have hl0 : l = [] := List.eq_nil_of_length_eq_zero h0
    subst hl0
    refine (AnyG.slices_Compact_string_empty Try.compactS none 0 w).mono ?_
    rintro e w' ⟨rfl, rfl⟩
    exact ⟨_, rfl, h, rfl, Fr.refl _ _⟩
  · have e1 : (l.map dat).length = l.length := by simp
    have hH : Holds encStr w g 0 (l.map dat).toArray := holds_of_block hb (by
      have e2 : l.map Value.string = (l.map dat).map encStr := by rw [List.map_map]; rfl
      rw [e1, ← e2]; simpa using h4)
    have := AnyG.slices_Compact_string Try.compactS g 0 cap (l.map dat) w hH (by rw [e1]; omega) (by rw [e1]; exact h1)
    rw [e1] at this
    refine this.mono ?_
    rintro e w' ⟨rfl, q, rfl⟩
    have hcl : (Lib.compact (l.map dat)).length ≤ l.length := by
      have := List.length_filter_le (Lib.keeps (l.map dat).toArray) (List.range (l.map dat).length)
      unfold Lib.compact Lib.compactUpTo
      rw [List.length_map]
      simpa using this
    obtain ⟨cs, hcs⟩ : ∃ cs, Lib.compact (l.map dat) = cs := ⟨_, rfl⟩
    have hpad : (cs ++ List.replicate (l.length - cs.length) ([] : List UInt8)).length = l.length := by rw [List.length_append, List.length_replicate]; rw [hcs] at hcl; omega
    have h5 := ownsRow_sorted (w := w) (n := q) (os := #[]) (base := 0) (ss := l.map dat) (ts := cs ++ List.replicate (l.length - cs.length) []) (by rw [hpad, e1]) (Nat.zero_le _) hb (by rw [e1]; exact h1) h2 (by simpa using h3)
    rw [hcs]
    rw [hcs] at hcl
    refine ⟨_, rfl, ?_, rfl, ?_⟩
    · rw [grow_nil] at h5
      have hlen : (compB l).length = cs.length := by unfold compB; rw [List.length_map, hcs]
      have hmap : (compB l).map Value.string = cs.map encStr := by
        unfold compB
        rw [hcs, List.map_map]
        exact List.map_congr_left fun a _ => by show Value.string (ofDat a) = _; rfl
      unfold TextsAt
      rw [hlen, hmap]
      obtain ⟨q1, q2⟩ := h5
      rcases q2 with ⟨c, _⟩ | ⟨g', cap', cur', e, q3, q4, q5, q6, q7, q8⟩
      · cases c
      · simp only [Value.slice.injEq, Option.some.injEq, Addr.mk.injEq, and_true] at e
        obtain ⟨rfl, _, rfl⟩ := e
        refine ⟨by simp, .inr ⟨g, cap, cur', rfl, Nat.zero_le _, q4, by omega, q6, q7, ?_⟩⟩
        have := congrArg (List.take cs.length) q8
        rw [List.take_take, List.map_append, List.take_append_of_le_length (by simp), List.take_of_length_le (l := List.map encStr cs) (by simp)] at this
        rw [← this, e1]
        congr 1
        omega
    · have := (Fr.of_grown (grownBy_sorted (w := w) (n := q) (os := #[]) (g := g) (cs ++ List.replicate (l.length - cs.length) []).toArray)).mono (T := fun b => (Value.slice (some ⟨g, 0, none⟩) l.length cap).ownBlock = some b) (fun b _ e => by rw [← e]; rfl)
      rw [grow_nil] at this
      exact this
set_option maxRecDepth 20000 in
set_option maxHeartbeats 1000000 in
/-- things of a session: rising, each once -/
theorem things_any (pv : ByteArray) (f u : Int) (b : Option Addr) (c : Nat) (xs : List ByteArray) (w : World) (hxs : Strs w b xs) (hl : xs.length ≤ 1048576) :
    Calls Try.prog 38 #[.agg #[.string pv, .int .i64 f, .int .i64 u, .slice b xs.length c]] w fun e w' => ∃ (v : Value) (ks : List ByteArray), e = .returned v ∧ Rise ks ∧ (∀ x, x ∈ ks ↔ x ∈ xs) ∧ ks.length ≤ xs.length ∧ TextsAt w' v ks ∧ (∀ b, v.ownBlock = some b → w.heap.size ≤ b) ∧ Below w.heap.size w w' := by
  have hb1 := (Below.refl w.heap.size w).alloc (Nat.le_refl _) (.cells #[.string pv, .int .i64 f, .int .i64 u, .slice b xs.length c] 31)
  have HB1 := Lib.hid hb1
  have HX := Lib.hid hxs
  have HL := Lib.hid hl
  generalize hn : xs.length = n at *
  have HN := Lib.hid hn
  clear hxs hl hn
  go_enter Try.func38, Try.ntmps38
  go_wp2_with fail
  generalize w.alloc (.cells #[.string pv, .int .i64 f, .int .i64 u, .slice b n c] 31) = w1 at *
  refine (values_fn b n c w1).mono ?_
  rintro e w2 ⟨rfl, rfl⟩
  have hbw : Below w1.heap.size w1 (w1.alloc (.cells #[.slice b n c] 29)) := (Below.refl _ _).alloc (Nat.le_refl _) _
  have CS : Hid _ := Lib.hid (sortedV_any w1.heap.size b c xs (w1.alloc (.cells #[.slice b n c] 29)) (by simp) (by rw [HN.out]; exact (Bk.new w1 [.slice b n c] 29).cell 0) ((HX.out.bel HB1.out).bel hbw) (by rw [HN.out]; exact HL.out))
  have HB2 : Hid (Below w.heap.size w (w1.alloc (.cells #[.slice b n c] 29))) := Lib.hid (HB1.out.trans (hbw.mono HB1.out.size))
  clear hbw
  generalize w1.alloc (.cells #[.slice b n c] 29) = w2 at *
  go_wp2_with fail
  refine CS.out.mono ?_
  rintro e w3 ⟨v, rfl, t3, o3, b3⟩
  obtain ⟨b', n', cap', rfl⟩ : ∃ b n c, v = .slice b n c := by
    obtain ⟨b', cap', h, _⟩ := strs_of_row t3
    exact ⟨_, _, _, h⟩
  have hlen : (sortB xs).length = xs.length := (sortB_perm xs).length_eq
  have CC := Lib.hid (compact_any t3 (by rw [hlen, HN.out]; exact HL.out))
  have HB3 : Hid (Below w.heap.size w w3) := Lib.hid (HB2.out.trans (b3.mono HB2.out.size))
  have HO : Hid (∀ x, (Value.slice b' n' cap').ownBlock = some x → w.heap.size ≤ x) := Lib.hid (fun x hx => by have := o3 x hx; have := HB2.out.size; omega)
  clear t3 o3 b3 CS HB2 HB1 hlen
  go_wp2_with fail
  refine CC.out.mono ?_
  rintro e w4 ⟨v', rfl, t4, o4, f4⟩
  have HE : Hid (Rise (compB (sortB xs)) ∧ (∀ x, x ∈ compB (sortB xs) ↔ x ∈ xs) ∧ (compB (sortB xs)).length ≤ n ∧ TextsAt w4 v' (compB (sortB xs)) ∧ (∀ b, v'.ownBlock = some b → w.heap.size ≤ b) ∧ Below w.heap.size w w4) := Lib.hid ⟨compB_rise xs, fun x => by rw [compB_mem, (sortB_perm xs).mem_iff], by
    have h1 : (compB (sortB xs)).length ≤ xs.length := by
      have := nodup_len (compB_rise xs).nodup (m := xs) (fun x hx => by rwa [compB_mem, (sortB_perm xs).mem_iff] at hx)
      exact this
    have := HN.out; omega, t4, fun x hx => HO.out x (by rw [← o4]; exact hx), HB3.out.trans (f4.below HB3.out.size (fun x hx => HO.out x hx))⟩
  clear t4 o4 f4 CC HO HB3
  obtain ⟨bb, nk, cc, rfl⟩ : ∃ b n c, v' = .slice b n c := by
    obtain ⟨b', cap', h, _⟩ := strs_of_row HE.out.2.2.2.1
    exact ⟨_, _, _, h⟩
  go_wp2_with fail
  go_ret
  have hE := HE.out
  exact ⟨_, compB (sortB xs), rfl, hE.1, hE.2.1, hE.2.2.1, hE.2.2.2.1, hE.2.2.2.2.1, hE.2.2.2.2.2⟩
end Go.Proofs.Ytbmjddmejmeknaa.Pr

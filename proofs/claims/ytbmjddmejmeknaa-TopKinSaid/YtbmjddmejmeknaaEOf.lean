/- Contract of Sessions.of: one person's sessions up to a tick. -/
import Derived.Test.YtbmjddmejmeknaaEPlain2
import Derived.Deep.DeepCutAuto
namespace Go.Proofs.Ytbmjddmejmeknaa
open Go.RowKit Go.MapKept Go.Maps Go.ChangeShapes Go.WideShapes
set_option linter.unusedVariables false
set_option linter.unusedSimpArgs false
theorem infoSes : (Try.prog.info? 31).map (fun i => (i.zero, i.size, i.bytes)) = some (some (.agg #[.string ⟨#[]⟩, .int .i64 0, .int .i64 0, .slice none 0 0]), 4, 56) := by kernel_rfl
/-- sessions in memory, that nobody changes -/
structure SvIn (w : World) (b : Option Addr) (svs : List SV) : Prop where
  i : InW w b 4 (svs.map svC)
  it : ∀ x ∈ svs, InW w x.ib 1 (x.its.map fun s => [.string s]) ∧ x.its.length ≤ x.ic ∧ x.ic ≤ maxLen
def SvNew (lo : Nat) (svs : List SV) : Prop := ∀ x ∈ svs, ∀ (B o : Nat), x.ib = some ⟨B, o, none⟩ → lo ≤ B
theorem SvIn.bel {w w' : World} {b : Option Addr} {svs : List SV} (h : SvIn w b svs) (hb : Below w.heap.size w w') : SvIn w' b svs := ⟨h.i.bel hb, fun x hx => ⟨(h.it x hx).1.bel hb, (h.it x hx).2⟩⟩
def tkOb (tv : Value) (ts : List Int) : ObM := .row tv 3 1 ts.length (ts.map (Value.int .i64))
def newOs (bl bi ri : Nat) : List ObM := [.box bl [.slice none 0 0] 25, .mp ri (vals vT []), .box bi [.map (some ri)] 84, .row (.slice none 0 0) 31 4 0 []]
def allOs (bl bi ri : Nat) (u : Value) (m : MI) (l : List SV) : List ObM := [.box bl [u] 25, .mp ri (vals vT m), .box bi [.map (some ri)] 84, .row u 31 4 l.length (l.flatMap svC)]
theorem endOs_all (bl bi ri : Nat) (u : Value) (m : MI) (svs : List SV) (z : SV) : endOs bl bi ri u m svs z = allOs bl bi ri u m (svs ++ [z]) := by simp [endOs, allOs]
theorem step_new {gap : Int} (hg : 0 ≤ gap) {p : ByteArray} {itm : Int → List ByteArray} {ts : List Int} {k : Nat} {t : Int} {S : List Se} (hS : S = allS gap (addsOf p itm (ts.take k))) (ht : ts[k]? = some t) (hne : itm t ≠ []) (h : ∀ x, S.getLast? = some x → ¬ (x.p = p ∧ t - x.t ≤ gap)) : S ++ [⟨p, t, t, putAll [] (itm t)⟩] = allS gap (addsOf p itm (ts.take (k + 1))) := by
  rw [addsOf_snoc ht]
  unfold allS at hS ⊢
  rw [List.foldl_append, ← hS, fold_tick_new hg p t (itm t) S h hne]
theorem step_join {gap : Int} (hg : 0 ≤ gap) {p : ByteArray} {itm : Int → List ByteArray} {ts : List Int} {k : Nat} {t : Int} {S : List Se} {x : Se} (hS : S ++ [x] = allS gap (addsOf p itm (ts.take k))) (ht : ts[k]? = some t) (hne : itm t ≠ []) (hp : x.p = p) (hj : t - x.t ≤ gap) : S ++ [⟨p, x.f, t, putAll x.its (itm t)⟩] = allS gap (addsOf p itm (ts.take (k + 1))) := by
  rw [addsOf_snoc ht]
  unfold allS at hS ⊢
  rw [List.foldl_append, ← hS, fold_tick hg p t (itm t) S x hp hj hne]
theorem se_same {z : SV} {x : Se} {m : MI} (h1 : z.p = x.p) (h2 : z.f = x.f) (h3 : z.t = x.t) (h4 : Rise z.its) (h5 : ∀ i, i ∈ z.its ↔ mget m i = some ()) (h6 : Rise x.its) (h7 : ∀ i, i ∈ x.its ↔ mget m i = some ()) : seOf z = x := by
  have : z.its = x.its := h4.ext h6 (fun i => by rw [h5, h7])
  unfold seOf
  rw [h1, h2, h3, this]
def nilSV (x : Se) : SV := ⟨x.p, x.f, x.t, [], none, 0⟩
structure OfSt (w wr : World) (bl bi ri : Nat) (tv : Value) (ts : List Int) (p : ByteArray) (L : List Tri) (S : List Se) : Prop where
  st : (S = [] ∧ Here KM w wr (newOs bl bi ri ++ [tkOb tv ts])) ∨
    ∃ (u : Value) (m : MI) (svs : List SV) (x : Se), S = svs.map seOf ++ [x] ∧ Here KM w wr (endOs bl bi ri u m svs (nilSV x) ++ (tkOb tv ts :: svs.map itsOb)) ∧ x.p = p ∧ Rise x.its ∧ (∀ i, i ∈ x.its ↔ mget m i = some ()) ∧ (∀ i, mget m i = some () → ∃ t, ((p, t, i) : Tri) ∈ L) ∧ 0 ≤ x.t ∧ x.t ≤ 1099511627776
theorem OfSt.fr0 {w wr w' : World} {bl bi ri : Nat} {tv : Value} {ts : List Int} {p : ByteArray} {L : List Tri} {S : List Se} (h : OfSt w wr bl bi ri tv ts p L S) (hb : Below wr.heap.size wr w') : OfSt w w' bl bi ri tv ts p L S := by
  rcases h.st with ⟨h1, h2⟩ | ⟨u, m, svs, x, h1, h2, h3⟩
  · exact ⟨.inl ⟨h1, h2.step_bel hb⟩⟩
  · exact ⟨.inr ⟨u, m, svs, x, h1, h2.step_bel hb, h3⟩⟩
theorem unit_len {m : MI} {L : List Tri} {p : ByteArray} {w : World} {r : Nat} (hm : Mp encS okS w r (vals vT m)) (h : ∀ i, mget m i = some () → ∃ t, ((p, t, i) : Tri) ∈ L) : m.length ≤ L.length := by
  have hn : (mkeys m).Nodup := by have := hm.nd; rwa [vals_keys] at this
  have := nodup_len (m := L.map fun a => a.2.2) hn (fun i hi => by
    obtain ⟨t, ht⟩ := h i ((unit_get m i).2 hi)
    exact List.mem_map.2 ⟨_, ht, rfl⟩)
  simpa [mkeys] using this
theorem sesSvs {w0 w : World} {os : List ObM} {u : Value} {svs : List SV} {i : Nat} (h : Here KM w0 w (os ++ svs.map itsOb)) (hi : i < os.length) (hr : os[i]? = some (.row u 31 4 svs.length (svs.flatMap svC))) : ∃ b c, u = .slice b svs.length c ∧ svs.length ≤ c ∧ c ≤ maxLen ∧ SvIn w b svs ∧ SvNew w0.heap.size svs := by
  obtain ⟨b, c, h1, h2, h3, h4, _⟩ := inw_of_rowm svLen (by omega) (m_rowAt h (i := i) (by rw [List.getElem?_append_left hi]; exact hr))
  have hat : ∀ x ∈ svs, ∃ j, (os ++ svs.map itsOb)[j]? = some (itsOb x) := fun x hx => by
    obtain ⟨j, hj⟩ := List.getElem?_of_mem hx
    exact ⟨os.length + j, by rw [List.getElem?_append_right (by omega), Nat.add_sub_cancel_left, List.getElem?_map, hj]; rfl⟩
  refine ⟨b, c, h1, h2, h3, ⟨h4, fun x hx => ?_⟩, fun x hx B' o' e => ?_⟩
  rotate_left
  · obtain ⟨j, hj⟩ := hat x hx
    exact m_rowNew h (i := j) (v := .slice x.ib x.its.length x.ic) (e := 9) (sz := 1) (n := x.its.length) (xs := x.its.map Value.string) hj B' (by rw [e]; rfl)
  obtain ⟨j, hj⟩ := hat x hx
  have hrow := m_rowAt h (i := j) (v := .slice x.ib x.its.length x.ic) (e := 9) (sz := 1) (n := x.its.length) (xs := x.its.map Value.string) hj
  obtain ⟨b', c', hv, r1, r2, r3⟩ := TextsAt.strs hrow
  simp only [Value.slice.injEq] at hv
  obtain ⟨rfl, _, rfl⟩ := hv
  exact ⟨r3, r1, r2⟩
section
set_option maxRecDepth 100000 in
set_option maxHeartbeats 8000000 in
theorem of_walk {w : World} {s r : Nat} {gap : Int} {mr : MR} {mt : ByteArray → MT} {mi : ByteArray → Int → MI} {role : Nat → Option Role} {B : List Nat} {L : List Tri} (h : SesR w s r gap mr mt mi role B) (hr : SRel L mr mt mi) (hL : SOk L) (hg : 0 ≤ gap ∧ gap ≤ 1099511627776) (hn : L.length ≤ 100000) (p : ByteArray) (now : Int) (hp : p.size ≤ maxLen) (hnow : I64 now) {b0 : Nat} (hb : mget mr p = some b0) :
    Calls Try.prog 34 #[.pointer (some ⟨s, 0, none⟩), .string p, .int .i64 now] w fun e w' => ∃ (b : Option Addr) (c : Nat) (svs : List SV), e = .returned (.slice b svs.length c) ∧ svs.length ≤ c ∧ c ≤ maxLen ∧ SvIn w' b svs ∧ SvNew w.heap.size svs ∧ svs.map seOf = allS gap (uptoT L p now) ∧ Below w.heap.size w w' := by
  obtain ⟨i0, hi0T, hz0, hz1, hz2⟩ := info_parts infoSes
  have hT := h.ticks hr hb
  have hlen := hT.len
  have HT := Lib.hid hT
  have HLO := Lib.hid hL
  have HNOW := Lib.hid hnow
  have c1 : w.cell? ⟨s, 1, none⟩ = some (.map (some r)) := h.bk.cell 1
  have hs := h.bk.lt
  have HC0 : Hid (∀ W, Below w.heap.size w W → W.cell? ⟨s, 0, none⟩ = some (.int .i64 gap)) := Lib.hid (fun W hW => (h.bk.bel hW).cell 0)
  have l1 := h.lookP hp (v := .map (some b0)) (by rw [hb]; rfl)
  obtain ⟨bl, hbl⟩ : ∃ bl, w.heap.size = bl := ⟨_, rfl⟩
  have hh1 := m_box (Here.nil (K := KM) (Below.refl w.heap.size w)) [.slice none 0 0] 25
  have hh2 := m_map (r := bl + 1) (m := vals vT []) hh1 ((Below.refl _ _).alloc (Nat.le_refl _) (.map #[] 0)) (by have := Mp.made (enc := encS) (Ok := okS) (w.alloc (.cells #[.slice none 0 0] 25)); rw [show (w.alloc (.cells #[.slice none 0 0] 25)).heap.size = bl + 1 by simp [hbl]] at this; exact this) (by simp [hbl])
  have hh3 := m_box hh2 [.map (some (bl + 1))] 84
  have hh4 := m_row (v := .slice none 0 0) (e := 31) (sz := 4) (n := 0) (xs := []) hh3 (Below.refl _ _) ⟨rfl, .inl ⟨rfl, rfl⟩⟩ (by simp [Value.ownBlock])
  have hs2 : ((w.alloc (.cells #[.slice none 0 0] 25)).alloc (.map #[] 0)).heap.size = bl + 1 + 1 := by simp [hbl]
  rw [hs2, hbl] at hh4
  have HH4 := Lib.hid hh4
  have hnew : (([] ++ [.box bl [.slice none 0 0] 25] ++ [.mp (bl + 1) (vals vT [])] ++ [.box (bl + 1 + 1) [.map (some (bl + 1))] 84] ++ [.row (.slice none 0 0) 31 4 0 []]) : List ObM) = newOs bl (bl + 1 + 1) (bl + 1) := rfl
  have hb3 := hh4.bel
  have HK := Lib.hid (keysT_fn (some b0) (((w.alloc (.cells #[.slice none 0 0] 25)).alloc (.map #[] 0)).alloc (.cells #[.map (some (bl + 1))] 84)))
  have hb4 := (Below.refl (((w.alloc (.cells #[.slice none 0 0] 25)).alloc (.map #[] 0)).alloc (.cells #[.map (some (bl + 1))] 84)).heap.size (((w.alloc (.cells #[.slice none 0 0] 25)).alloc (.map #[] 0)).alloc (.cells #[.map (some (bl + 1))] 84))).alloc (Nat.le_refl _) (.cells #[.map (some b0)] 57)
  have H5 := Lib.hid (hh4.step_bel hb4)
  have hs5 : (((w.alloc (.cells #[.slice none 0 0] 25)).alloc (.map #[] 0)).alloc (.cells #[.map (some (bl + 1))] 84)).heap.size = bl + 1 + 1 + 1 := by simp [hbl]
  have HSO := Lib.hid (sortedT_any b0 (vals vMap (mt p)) ((((w.alloc (.cells #[.slice none 0 0] 25)).alloc (.map #[] 0)).alloc (.cells #[.map (some (bl + 1))] 84)).alloc (.cells #[.map (some b0)] 57)) (hT.tk.bel H5.out.bel) (by rw [vals_len]; omega) (bl + 1 + 1 + 1) (by simp [hbl]) (by have := (Bk.new (((w.alloc (.cells #[.slice none 0 0] 25)).alloc (.map #[] 0)).alloc (.cells #[.map (some (bl + 1))] 84)) [.map (some b0)] 57).cell 0; rw [hs5] at this; exact this))
  have hh := @run_makeMap Try.prog
  rw [hs5] at HK
  clear hT h hr hL hh1 hh2 hh3 hh4 hb hs hb3 hb4 hs5 hs2 hlen
  go_enter Try.func34, Try.ntmps34
  go_wp2_with fail
  refine HK.out.mono ?_
  rintro e w4 ⟨rfl, rfl⟩
  go_wp2_with fail
  refine HSO.out.mono ?_
  rintro e W5 ⟨tv, ts, rfl, q1, q2, q3, q4, b5⟩
  have hh6 := m_row H5.out b5 q3 q4
  rw [hnew] at hh6
  have htl := inw_of_row (Value.int .i64) q3
  obtain ⟨tb, tc, htv, -, -, -, -⟩ := htl
  obtain ⟨n, hn'⟩ : ∃ n, ts.length = n := ⟨_, rfl⟩
  rw [hn'] at htv
  subst htv
  have hn1 : n ≤ 100000 := by
    have h1 := nodup_len (m := L.map fun a => a.2.1) (riseI_nodup q1) (fun t ht => by
      have := (q2 t).1 ht
      rw [vals_keys] at this
      obtain ⟨i, hi⟩ := (HT.out.key t).1 this
      exact List.mem_map.2 ⟨_, hi, rfl⟩)
    rw [List.length_map] at h1
    omega
  have HTS : Hid (RiseI ts ∧ (∀ t, t ∈ ts ↔ ∃ i, ((p, t, i) : Tri) ∈ L) ∧ ts.length = n) := Lib.hid ⟨q1, fun t => by rw [q2, vals_keys]; exact HT.out.key t, hn'⟩
  have HST : Hid (OfSt w W5 bl (bl + 1 + 1) (bl + 1) (.slice tb n tc) ts p L []) := Lib.hid ⟨.inl ⟨rfl, hh6⟩⟩
  have HBL := Lib.hid hbl
  have HBW : Hid (w.heap.size ≤ bl ∧ bl < bl + 1 ∧ bl + 1 < bl + 1 + 1) := Lib.hid ⟨by omega, by omega, by omega⟩
  clear hh6 q1 q2 q3 q4 b5 hn' HSO HK H5 HH4 hnew c1 l1 hbl hh
  generalize bl + 1 + 1 = bi at *
  generalize bl + 1 = ri at *
  go_wp2_with fail
  go_loopw [26] (fun c wr => ∃ (k : Nat) (S : List Se), k ≤ n ∧ c = .int .i64 k ∧ Hid (S = allS gap (addsOf p (itmF L p) (ts.take k)) ∧ S.length ≤ k ∧ ∀ t ∈ ts.take k, t ≤ now) ∧ Hid (OfSt w wr bl bi ri (.slice tb n tc) ts p L S)) (fun c _ => n - (intOf c).toNat)
  case atStart => exact ⟨0, [], Nat.zero_le _, rfl, Lib.hid ⟨by simp [addsOf, allS], Nat.le_refl _, by simp⟩, HST⟩
  case round =>
    obtain ⟨k, S, hk, rfl, HS, HO⟩ := hrel
    clear HST
    by_cases hlt : k < n
    · obtain ⟨t, ht⟩ : ∃ t, ts[k]? = some t := ⟨ts[k]'(by rw [HTS.out.2.2]; exact hlt), List.getElem?_eq_getElem _⟩
      have htm := (HTS.out.2.1 t).1 (List.mem_of_getElem? ht)
      have hto : 0 ≤ t ∧ t ≤ 1099511627776 := by
        obtain ⟨i, hi⟩ := htm
        have := (okT_iff _).1 (HLO.out.ok _ hi)
        exact ⟨this.2.2.2.2.1, this.2.2.2.2.2⟩
      have hk0 : (0 : Int) ≤ (k : Int) := by omega
      have hk1 : (k : Int) < (n : Int) := by omega
      have HTK := Lib.hid ht
      have hin := HNOW.out
      unfold I64 at hin
      rcases HO.out.st with ⟨hS, hhr⟩ | ⟨u, m, svs, x, hS, hhr, x1, x2, x3, x4, x5, x6⟩
      · have hrow := m_rowAt hhr (i := 4) rfl
        obtain ⟨b5, c5, hv5, -, -, hin5, -⟩ := inw_of_row (Value.int .i64) hrow
        obtain ⟨Bt, ot, rfl, hBt, hct⟩ := inw_at (Value.int .i64) hin5 ht
        simp only [Value.slice.injEq] at hv5
        obtain ⟨rfl, -, -⟩ := hv5
        clear hrow hin5
        by_cases hbr : now < t
        · have tb1 : decide (now < t) = true := decide_eq_true hbr
          have HF : Hid (allS gap (addsOf p (itmF L p) (ts.take k)) = allS gap (uptoT L p now)) := Lib.hid (by
            rw [adds_upto HLO.out.rise (List.Pairwise.sublist (List.take_sublist _ _) HTS.out.1) (fun t' => ?_)]
            constructor
            · intro h'
              exact ⟨(HTS.out.2.1 t').1 (List.mem_of_mem_take h'), HS.out.2.2 t' h'⟩
            · rintro ⟨h1, h2⟩
              rcases Decidable.em (t' ∈ ts.take k) with h3 | h3
              · exact h3
              · have := rise_cut HTS.out.1 HTK.out t' ((HTS.out.2.1 t').2 h1) h3
                omega)
          subst hS
          have HH := Lib.hid hhr
          have c0 : wr.cell? ⟨bl, 0, none⟩ = some (.slice none 0 0) := (m_boxAt hhr (i := 0) rfl).cell 0
          have HE := Lib.hid (end_none bl bi wr _ ⟨none, 0, rfl⟩ c0)
          clear hhr HO
          go_wp2_with fail
          refine HE.out.mono ?_
          rintro e w9 ⟨rfl, rfl⟩
          go_wp2_with fail
          go_ret
          exact ⟨none, 0, [], rfl, Nat.le_refl _, Nat.zero_le _, ⟨.inl rfl, by simp⟩, (by intro x hx; cases hx), by rw [← HF.out, ← HS.out.1]; rfl, HH.out.bel⟩
        · have tb1 : decide (now < t) = false := decide_eq_false hbr
          subst hS
          have HH := Lib.hid hhr
          have c0 : wr.cell? ⟨bl, 0, none⟩ = some (.slice none 0 0) := (m_boxAt hhr (i := 0) rfl).cell 0
          have HST : Hid (itmF L p t ≠ [] → [] ++ [⟨p, t, t, putAll [] (itmF L p t)⟩] = allS gap (addsOf p (itmF L p) (ts.take (k + 1)))) := Lib.hid (fun hne => step_new hg.1 HS.out.1 HTK.out hne (by simp))
          have HSV : Hid (([] : List Se) = ([] : List SV).map seOf) := Lib.hid rfl
          clear hhr HO
          go_wp2_with fail
          go_quiet (fail)
          have HQ := Lib.hid (HH.out.drewN nq)
          generalize wr.drewN nq = W1 at *
          clear c0 HH hct
          have c1 : W1.cell? ⟨bl, 0, none⟩ = some (.slice none 0 0) := (m_boxAt HQ.out (i := 0) rfl).cell 0
          have HE := Lib.hid (end_none bl bi W1 _ ⟨none, 0, rfl⟩ c1)
          clear c1
          go_wp2_with fail
          refine HE.out.mono ?_
          rintro e W2 ⟨rfl, rfl⟩
          have H2 : Hid (Here KM w W1 (allOs bl bi ri (.slice none 0 0) [] [] ++ (tkOb (.slice (some ⟨Bt, ot, none⟩) n tc) ts :: ([] : List SV).map itsOb))) := HQ
          clear HE HQ
          obtain ⟨W3, x3, m3, f3, z3⟩ := (m_mapAt H2.out (i := 1) rfl).wiped (P := Try.prog) Try.underlying84
          have H3 := Lib.hid (m_mapSet H2.out (i := 1) (m' := vals vT []) rfl m3 f3)
          have d0 : W3.cell? ⟨bl, 0, none⟩ = some (.slice none 0 0) := (m_boxAt H3.out (i := 0) rfl).cell 0
          have d1 : W1.cell? ⟨bi, 0, none⟩ = some (.map (some ri)) := (m_boxAt H2.out (i := 2) rfl).cell 0
          have hb4 := (Below.refl W3.heap.size W3).alloc (Nat.le_refl _) (.cells #[.string p, .int .i64 t, .int .i64 t, .slice none 0 0] 31)
          have H4 := Lib.hid (H3.out.step_bel hb4)
          have HROW := Lib.hid (m_rowAt H4.out (i := 3) rfl)
          have HIN : Hid (InW (W3.alloc (.cells #[.string p, .int .i64 t, .int .i64 t, .slice none 0 0] 31)) (some ⟨W3.heap.size, 0, none⟩) 4 ([(⟨p, t, t, [], none, 0⟩ : SV)].map svC)) := Lib.hid (inw_one (f := svC) (x := (⟨p, t, t, [], none, 0⟩ : SV)) (Bk.new W3 (svC (⟨p, t, t, [], none, 0⟩ : SV)) 31))
          have HLN : Hid ((([] : List SV)).length + [(⟨p, t, t, [], none, 0⟩ : SV)].length ≤ 1000000) := Lib.hid (by have h1 := HS.out.2.1; rw [HSV.out, List.length_map] at h1; simp only [List.length_cons, List.length_nil]; omega)
          clear m3 f3 z3 hb4 H3 H2
          obtain ⟨kk, hkk⟩ : ∃ kk, (([] : List SV)).length = kk := ⟨_, rfl⟩
          have HKK := Lib.hid hkk
          have hln : (([] : List SV) ++ [(⟨p, t, t, [], none, 0⟩ : SV)]).length = kk + 1 := by rw [List.length_append, hkk]; rfl
          have HLN2 := Lib.hid hln
          clear hkk hln
          go_upto_region 14 with (at_builtin; refine wpList_append_m svLen svOne _ rfl _ _ _ rfl 31 i0 _ 56 Try.underlying25 hi0T hz0 hz1 hz2 rfl (by decide) (by omega) (.slice none 0 0) (([] : List SV)) [(⟨p, t, t, [], none, 0⟩ : SV)] rfl HROW.out (some ⟨W3.heap.size, 0, none⟩) 1 1 rfl rfl HIN.out HLN.out ?_; intro v5 w5 o5 f5 h5; rw [HLN2.out] at o5; obtain ⟨g6, c6, hv6⟩ := row_block o5 (by omega); subst hv6; have H5 := Lib.hid (m_more H4.out (i := 3) rfl o5 f5 h5); have y0 : w5.cell? ⟨bl, 0, none⟩ = some (.slice none 0 0) := (m_boxAt H5.out (i := 0) rfl).cell 0; have yf := (m_boxAt H5.out (i := 0) rfl).free 0; clear o5 f5 h5)
          have H6 : Hid (Here KM w (w5.setCell ⟨bl, 0, none⟩ (.slice (some ⟨g6, 0, none⟩) (kk + 1) c6)) (endOs bl bi ri (.slice (some ⟨g6, 0, none⟩) ((([] : List SV)).length + 1) c6) [] (([] : List SV)) ⟨p, t, t, [], none, 0⟩ ++ (tkOb (.slice (some ⟨Bt, ot, none⟩) n tc) ts :: (([] : List SV)).map itsOb))) := Lib.hid (by
            have h6 := m_set H5.out (i := 0) rfl 0 (.slice (some ⟨g6, 0, none⟩) (kk + 1) c6)
            unfold endOs
            rw [HKK.out]
            exact h6)
          have hkl : kk ≤ 100000 := by have h1 := HS.out.2.1; rw [HSV.out, List.length_map, HKK.out] at h1; omega
          clear y0 yf H5 HLN2 d0 d1 H4 HROW HIN HLN x3
          generalize w5.setCell ⟨bl, 0, none⟩ (.slice (some ⟨g6, 0, none⟩) (kk + 1) c6) = W6 at *
          obtain ⟨i1, hi1⟩ := htm
          obtain ⟨ct, hct, hct1⟩ := (HT.out.mem t i1).1 hi1
          have hlk : ∀ W, Below w.heap.size w W → (Instr.lookup 57 (.map (some b0)) (.int .i64 t) false).run Try.prog W = .ok (.map (some ct)) W := fun W hW => by
            have := (HT.out.bel hW).tk.look (P := Try.prog) keyI Try.underlying57 (zeroMB W) (a := t) (wf64 (by unfold I64; omega)) false
            rw [vals_get, hct] at this
            exact this
          have l6 := hlk W6 H6.out.bel
          have d0 : W6.cell? ⟨bl, 0, none⟩ = some (.slice (some ⟨g6, 0, none⟩) (kk + 1) c6) := by have := (m_boxAt H6.out (i := 0) rfl).cell 0; rw [HKK.out] at this; exact this
          have d1 : W6.cell? ⟨bi, 0, none⟩ = some (.map (some ri)) := (m_boxAt H6.out (i := 2) rfl).cell 0
          have hctl := (HT.out.it t ct hct).lt
          have hwi := HBW.out
          have HCP := Lib.hid (copy_any ri ct ([] : MI) (mi p t) W6 (m_mapAt H6.out (i := 1) rfl) ((HT.out.bel H6.out.bel).it t ct hct) (by omega))
          have HIT : Hid (∀ i, i ∈ itmF L p t ↔ mget (mi p t) i = some ()) := Lib.hid (fun i => by
            rw [itmF_mem, HT.out.mem]
            exact ⟨fun ⟨c', h1, h2⟩ => h2, fun h1 => ⟨ct, hct, h1⟩⟩)
          have HNE : Hid (itmF L p t ≠ []) := Lib.hid (fun e => by
            have := (itmF_mem L p t i1).2 hi1
            rw [e] at this; cases this)
          clear hi1 hct hct1 hctl hlk
          go_wp2_with fail
          refine HCP.out.mono ?_
          rintro e W7 ⟨rfl, ⟨md, m7, k7⟩, f7⟩
          have H7 := Lib.hid (m_mapSet H6.out (i := 1) rfl m7 f7)
          have e0 : W7.cell? ⟨bl, 0, none⟩ = some (.slice (some ⟨g6, 0, none⟩) (kk + 1) c6) := by have := (m_boxAt H7.out (i := 0) rfl).cell 0; rw [HKK.out] at this; exact this
          have e3 : W7.cell? ⟨g6, kk * 4 + 2, none⟩ = some (.int .i64 t) := by have := sv_at (m_rowAt H7.out (i := 3) rfl) 2 (by omega); rw [HKK.out] at this; exact this
          have ef := own_free (m_rowAt H7.out (i := 3) rfl) (kk * 4 + 2)
          have qk : IntKind.i64.wrap (kk : Int) = (kk : Int) := IntWalk.i64_in _ (by omega)
          have hkk0 : (0 : Int) ≤ (kk : Int) := by omega
          have hkk1 : (kk : Int) < (kk : Int) + 1 := by omega
          have HK7 := Lib.hid k7
          clear m7 k7 f7 HCP l6 d0 d1 H6 hwi
          go_wp2_with fail
          have H8 : Hid (Here KM w (W7.setCell ⟨g6, kk * 4 + 2, none⟩ (.int .i64 t)) (endOs bl bi ri (.slice (some ⟨g6, 0, none⟩) (([] : List SV).length + 1) c6) md ([] : List SV) ⟨p, t, t, [], none, 0⟩ ++ (tkOb (.slice (some ⟨Bt, ot, none⟩) n tc) ts :: ([] : List SV).map itsOb))) := Lib.hid (by
            have h8 := m_rowSet H7.out (i := 3) (k := kk * 4 + 2) (u := .int .i64 t) rfl (by rw [HKK.out]; omega)
            rw [← HKK.out] at h8 ⊢
            rw [flat_set ([] : List SV) _ 2 _ (by omega)] at h8
            have e2 : ([] : List SV).flatMap svC ++ (svC (⟨p, t, t, [], none, 0⟩ : SV)).set 2 (.int .i64 t) = (([] : List SV) ++ [(⟨p, t, t, [], none, 0⟩ : SV)]).flatMap svC := by rw [List.flatMap_append]; rfl
            rw [e2] at h8
            exact h8)
          clear e0 e3 ef qk hkk0 hkk1 H7
          go_roundw
          case rel =>
            refine ⟨k + 1, [] ++ [⟨p, t, t, putAll [] (itmF L p t)⟩], by omega, by go_num, Lib.hid ⟨HST.out HNE.out, ?_, ?_⟩, Lib.hid ⟨.inr ⟨_, md, ([] : List SV), ⟨p, t, t, putAll [] (itmF L p t)⟩, rfl, H8.out, rfl, putAll_rise _ (List.Pairwise.nil : Rise []), fun i => ?_, fun i hi => ?_, hto.1, hto.2⟩⟩⟩
            · have := HS.out.2.1
              rw [List.length_append, List.length_cons, List.length_nil]
              omega
            · intro t' ht'
              rw [List.take_add_one, HTK.out] at ht'
              rcases List.mem_append.1 ht' with h1 | h1
              · exact HS.out.2.2 t' h1
              · simp at h1
                omega
            · rw [putAll_mem, HK7.out, HIT.out]
              simp [mget]
            · rcases (HK7.out i).1 hi with h1 | h1
              · simp [mget] at h1
              · exact ⟨t, (itmF_mem L p t i).1 ((HIT.out i).2 h1)⟩
          case measure => simp [intOf]; omega
      · have hrow := m_rowAt hhr (i := 4) rfl
        obtain ⟨b5, c5, hv5, -, -, hin5, -⟩ := inw_of_row (Value.int .i64) hrow
        obtain ⟨Bt, ot, rfl, hBt, hct⟩ := inw_at (Value.int .i64) hin5 ht
        simp only [Value.slice.injEq] at hv5
        obtain ⟨rfl, -, -⟩ := hv5
        clear hrow hin5
        by_cases hbr : now < t
        · have tb1 : decide (now < t) = true := decide_eq_true hbr
          have HF : Hid (allS gap (addsOf p (itmF L p) (ts.take k)) = allS gap (uptoT L p now)) := Lib.hid (by
            rw [adds_upto HLO.out.rise (List.Pairwise.sublist (List.take_sublist _ _) HTS.out.1) (fun t' => ?_)]
            constructor
            · intro h'
              exact ⟨(HTS.out.2.1 t').1 (List.mem_of_mem_take h'), HS.out.2.2 t' h'⟩
            · rintro ⟨h1, h2⟩
              rcases Decidable.em (t' ∈ ts.take k) with h3 | h3
              · exact h3
              · have := rise_cut HTS.out.1 HTK.out t' ((HTS.out.2.1 t').2 h1) h3
                omega)
          subst hS
          have hsl := HS.out.2.1
          rw [List.length_append, List.length_map, List.length_cons, List.length_nil] at hsl
          have hml := unit_len (m_mapAt hhr (i := 1) rfl) x4
          obtain ⟨gu, cu, rfl⟩ := row_block (m_rowAt hhr (i := 3) rfl) (by omega)
          have HE := Lib.hid (end_any hhr (by omega) (by omega))
          have HX := Lib.hid (And.intro x2 x3)
          clear hhr HO x2 x3 x4
          go_wp2_with fail
          refine HE.out.mono ?_
          rintro e w9 ⟨rfl, z9, z1, z2, z3, z4, z5, h9⟩
          have c9 : w9.cell? ⟨bl, 0, none⟩ = some (.slice (some ⟨gu, 0, none⟩) (svs.length + 1) cu) := (m_boxAt h9 (i := 0) rfl).cell 0
          have e9 : endOs bl bi ri (.slice (some ⟨gu, 0, none⟩) (svs.length + 1) cu) m svs z9 ++ ((tkOb (.slice (some ⟨Bt, ot, none⟩) n tc) ts :: svs.map itsOb) ++ [itsOb z9]) = (allOs bl bi ri (.slice (some ⟨gu, 0, none⟩) (svs.length + 1) cu) m (svs ++ [z9]) ++ [tkOb (.slice (some ⟨Bt, ot, none⟩) n tc) ts]) ++ (svs ++ [z9]).map itsOb := by
            rw [endOs_all]; simp
          have H9 := Lib.hid h9
          rw [e9] at h9
          have HR := Lib.hid (sesSvs (i := 3) h9 (by simp [allOs]) rfl)
          have HSE : Hid (seOf z9 = x) := Lib.hid (se_same z1 z2 z3 z4 z5 HX.out.1 HX.out.2)
          clear h9 e9 z1 z2 z3 z4 z5 HE
          go_wp2_with fail
          go_ret
          obtain ⟨b', c', r1, r2, r3, r4, r5⟩ := HR.out
          refine ⟨b', c', svs ++ [z9], congrArg Ending.returned r1, r2, r3, r4, r5, ?_, H9.out.bel⟩
          rw [← HF.out, ← HS.out.1, List.map_append]
          simp [HSE.out]
        · have tb1 : decide (now < t) = false := decide_eq_false hbr
          subst hS
          have hsl := HS.out.2.1
          rw [List.length_append, List.length_map, List.length_cons, List.length_nil] at hsl
          have hml := unit_len (m_mapAt hhr (i := 1) rfl) x4
          obtain ⟨gu, cu, rfl⟩ := row_block (m_rowAt hhr (i := 3) rfl) (by omega)
          obtain ⟨kk, hkk⟩ : ∃ kk, svs.length = kk := ⟨_, rfl⟩
          have HKK := Lib.hid hkk
          have HH := Lib.hid hhr
          have HX := Lib.hid (And.intro x2 x3)
          have HX4 := Lib.hid x4
          have c0 : wr.cell? ⟨bl, 0, none⟩ = some (.slice (some ⟨gu, 0, none⟩) (kk + 1) cu) := by have := (m_boxAt hhr (i := 0) rfl).cell 0; rw [hkk] at this; exact this
          have cs := HC0.out wr hhr.bel
          have r2 : wr.cell? ⟨gu, kk * 4 + 2, none⟩ = some (.int .i64 x.t) := by have := sv_at (m_rowAt hhr (i := 3) rfl) 2 (by omega); rw [hkk] at this; exact this
          have t0 : ((kk : Int) + 1 == 0) = false := by simp; omega
          have qk : IntKind.i64.wrap (kk : Int) = (kk : Int) := IntWalk.i64_in _ (by omega)
          have hkk0 : (0 : Int) ≤ (kk : Int) := by omega
          have hkk1 : (kk : Int) < (kk : Int) + 1 := by omega
          have qd : IntKind.i64.wrap (t - x.t) = t - x.t := IntWalk.i64_in _ (by omega)
          clear hhr HO x2 x3 x4
          by_cases hj : t - x.t ≤ gap
          · have tj : decide (gap < t - x.t) = false := decide_eq_false (by omega)
            have HST : Hid (itmF L p t ≠ [] → svs.map seOf ++ [⟨p, x.f, t, putAll x.its (itmF L p t)⟩] = allS gap (addsOf p (itmF L p) (ts.take (k + 1)))) := Lib.hid (fun hne => step_join hg.1 HS.out.1 HTK.out hne x1 hj)
            go_wp2_with fail
            go_quiet (fail)
            have HQ := Lib.hid (HH.out.drewN nq)
            generalize wr.drewN nq = W6 at *
            have hkl : kk ≤ 100000 := by omega
            clear c0 cs r2 t0 qk hkk0 hkk1 qd HH hct hkk tj
            obtain ⟨g6, hg6⟩ : ∃ g6, gu = g6 := ⟨_, rfl⟩
            obtain ⟨c6, hc6⟩ : ∃ c6, cu = c6 := ⟨_, rfl⟩
            subst hg6 hc6
            have H6 : Hid (Here KM w W6 (endOs bl bi ri (.slice (some ⟨gu, 0, none⟩) (svs.length + 1) cu) m svs ⟨p, x.f, x.t, [], none, 0⟩ ++ (tkOb (.slice (some ⟨Bt, ot, none⟩) n tc) ts :: svs.map itsOb))) := Lib.hid (by
              have h := HQ.out
              unfold nilSV at h
              rw [x1] at h
              exact h)
            clear HQ
            obtain ⟨i1, hi1⟩ := htm
            obtain ⟨ct, hct, hct1⟩ := (HT.out.mem t i1).1 hi1
            have hlk : ∀ W, Below w.heap.size w W → (Instr.lookup 57 (.map (some b0)) (.int .i64 t) false).run Try.prog W = .ok (.map (some ct)) W := fun W hW => by
              have := (HT.out.bel hW).tk.look (P := Try.prog) keyI Try.underlying57 (zeroMB W) (a := t) (wf64 (by unfold I64; omega)) false
              rw [vals_get, hct] at this
              exact this
            have l6 := hlk W6 H6.out.bel
            have d0 : W6.cell? ⟨bl, 0, none⟩ = some (.slice (some ⟨gu, 0, none⟩) (kk + 1) cu) := by have := (m_boxAt H6.out (i := 0) rfl).cell 0; rw [HKK.out] at this; exact this
            have d1 : W6.cell? ⟨bi, 0, none⟩ = some (.map (some ri)) := (m_boxAt H6.out (i := 2) rfl).cell 0
            have hctl := (HT.out.it t ct hct).lt
            have hwi := HBW.out
            have HCP := Lib.hid (copy_any ri ct m (mi p t) W6 (m_mapAt H6.out (i := 1) rfl) ((HT.out.bel H6.out.bel).it t ct hct) (by omega))
            have HIT : Hid (∀ i, i ∈ itmF L p t ↔ mget (mi p t) i = some ()) := Lib.hid (fun i => by
              rw [itmF_mem, HT.out.mem]
              exact ⟨fun ⟨c', h1, h2⟩ => h2, fun h1 => ⟨ct, hct, h1⟩⟩)
            have HNE : Hid (itmF L p t ≠ []) := Lib.hid (fun e => by
              have := (itmF_mem L p t i1).2 hi1
              rw [e] at this; cases this)
            clear hi1 hct hct1 hctl hlk
            go_wp2_with fail
            refine HCP.out.mono ?_
            rintro e W7 ⟨rfl, ⟨md, m7, k7⟩, f7⟩
            have H7 := Lib.hid (m_mapSet H6.out (i := 1) rfl m7 f7)
            have e0 : W7.cell? ⟨bl, 0, none⟩ = some (.slice (some ⟨gu, 0, none⟩) (kk + 1) cu) := by have := (m_boxAt H7.out (i := 0) rfl).cell 0; rw [HKK.out] at this; exact this
            have e3 : W7.cell? ⟨gu, kk * 4 + 2, none⟩ = some (.int .i64 x.t) := by have := sv_at (m_rowAt H7.out (i := 3) rfl) 2 (by omega); rw [HKK.out] at this; exact this
            have ef := own_free (m_rowAt H7.out (i := 3) rfl) (kk * 4 + 2)
            have qk : IntKind.i64.wrap (kk : Int) = (kk : Int) := IntWalk.i64_in _ (by omega)
            have hkk0 : (0 : Int) ≤ (kk : Int) := by omega
            have hkk1 : (kk : Int) < (kk : Int) + 1 := by omega
            have HK7 := Lib.hid k7
            clear m7 k7 f7 HCP l6 d0 d1 H6 hwi
            go_wp2_with fail
            have H8 : Hid (Here KM w (W7.setCell ⟨gu, kk * 4 + 2, none⟩ (.int .i64 t)) (endOs bl bi ri (.slice (some ⟨gu, 0, none⟩) (svs.length + 1) cu) md svs ⟨p, x.f, t, [], none, 0⟩ ++ (tkOb (.slice (some ⟨Bt, ot, none⟩) n tc) ts :: svs.map itsOb))) := Lib.hid (by
              have h8 := m_rowSet H7.out (i := 3) (k := kk * 4 + 2) (u := .int .i64 t) rfl (by rw [HKK.out]; omega)
              rw [← HKK.out] at h8 ⊢
              rw [flat_set svs _ 2 _ (by omega)] at h8
              have e2 : svs.flatMap svC ++ (svC (⟨p, x.f, x.t, [], none, 0⟩ : SV)).set 2 (.int .i64 t) = (svs ++ [(⟨p, x.f, t, [], none, 0⟩ : SV)]).flatMap svC := by rw [List.flatMap_append]; rfl
              rw [e2] at h8
              exact h8)
            clear e0 e3 ef qk hkk0 hkk1 H7
            go_roundw
            case rel =>
              refine ⟨k + 1, svs.map seOf ++ [⟨p, x.f, t, putAll x.its (itmF L p t)⟩], by omega, by go_num, Lib.hid ⟨HST.out HNE.out, ?_, ?_⟩, Lib.hid ⟨.inr ⟨_, md, svs, ⟨p, x.f, t, putAll x.its (itmF L p t)⟩, rfl, H8.out, rfl, putAll_rise _ HX.out.1, fun i => ?_, fun i hi => ?_, hto.1, hto.2⟩⟩⟩
              · have := HS.out.2.1
                rw [List.length_append, List.length_map, List.length_cons, List.length_nil] at this ⊢
                omega
              · intro t' ht'
                rw [List.take_add_one, HTK.out] at ht'
                rcases List.mem_append.1 ht' with h1 | h1
                · exact HS.out.2.2 t' h1
                · simp at h1
                  omega
              · rw [putAll_mem, HK7.out, HIT.out]
                rw [HX.out.2]
              · rcases (HK7.out i).1 hi with h1 | h1
                · exact HX4.out i h1
                · exact ⟨t, (itmF_mem L p t i).1 ((HIT.out i).2 h1)⟩
            case measure => simp [intOf]; omega
          · have tj : decide (gap < t - x.t) = true := decide_eq_true (by omega)
            have HST0 : Hid (itmF L p t ≠ [] → (svs.map seOf ++ [x]) ++ [⟨p, t, t, putAll [] (itmF L p t)⟩] = allS gap (addsOf p (itmF L p) (ts.take (k + 1)))) := Lib.hid (fun hne => step_new hg.1 HS.out.1 HTK.out hne (fun y hy => by
              rw [List.getLast?_append] at hy
              simp at hy
              subst hy
              exact fun c => hj c.2))
            go_wp2_with fail
            go_quiet (fail)
            have HQ := Lib.hid (HH.out.drewN nq)
            generalize wr.drewN nq = W1 at *
            clear c0 cs r2 t0 qk hkk0 hkk1 qd HH hct tj HKK
            subst hkk
            have HE := Lib.hid (end_any HQ.out (by omega) (by omega))
            go_wp2_with fail
            refine HE.out.mono ?_
            rintro e W2 ⟨rfl, z9, z1, z2, z3, z4, z5, h9⟩
            have e9 : endOs bl bi ri (.slice (some ⟨gu, 0, none⟩) (svs.length + 1) cu) m svs z9 ++ ((tkOb (.slice (some ⟨Bt, ot, none⟩) n tc) ts :: svs.map itsOb) ++ [itsOb z9]) = allOs bl bi ri (.slice (some ⟨gu, 0, none⟩) (svs.length + 1) cu) m (svs ++ [z9]) ++ (tkOb (.slice (some ⟨Bt, ot, none⟩) n tc) ts :: (svs ++ [z9]).map itsOb) := by
              rw [endOs_all]; simp
            rw [e9] at h9
            have H2 := Lib.hid h9
            have HSE : Hid (seOf z9 = x) := Lib.hid (se_same z1 z2 z3 z4 z5 HX.out.1 HX.out.2)
            obtain ⟨l1, hl1⟩ : ∃ l1, svs ++ [z9] = l1 := ⟨_, rfl⟩
            have HSV : Hid (svs.map seOf ++ [x] = l1.map seOf) := Lib.hid (by rw [← hl1, List.map_append]; simp [HSE.out])
            have HST : Hid (itmF L p t ≠ [] → l1.map seOf ++ [⟨p, t, t, putAll [] (itmF L p t)⟩] = allS gap (addsOf p (itmF L p) (ts.take (k + 1)))) := Lib.hid (by rw [← HSV.out]; exact HST0.out)
            rw [hl1] at H2
            clear h9 e9 z1 z2 z3 z4 z5 HE HQ HSE hl1 HST0
            obtain ⟨W3, x3, m3, f3, z3⟩ := (m_mapAt H2.out (i := 1) rfl).wiped (P := Try.prog) Try.underlying84
            have H3 := Lib.hid (m_mapSet H2.out (i := 1) (m' := vals vT []) rfl m3 f3)
            have d0 : W3.cell? ⟨bl, 0, none⟩ = some (.slice (some ⟨gu, 0, none⟩) (svs.length + 1) cu) := (m_boxAt H3.out (i := 0) rfl).cell 0
            have d1 : W2.cell? ⟨bi, 0, none⟩ = some (.map (some ri)) := (m_boxAt H2.out (i := 2) rfl).cell 0
            have hb4 := (Below.refl W3.heap.size W3).alloc (Nat.le_refl _) (.cells #[.string p, .int .i64 t, .int .i64 t, .slice none 0 0] 31)
            have H4 := Lib.hid (H3.out.step_bel hb4)
            have HROW := Lib.hid (m_rowAt H4.out (i := 3) rfl)
            have HIN : Hid (InW (W3.alloc (.cells #[.string p, .int .i64 t, .int .i64 t, .slice none 0 0] 31)) (some ⟨W3.heap.size, 0, none⟩) 4 ([(⟨p, t, t, [], none, 0⟩ : SV)].map svC)) := Lib.hid (inw_one (f := svC) (x := (⟨p, t, t, [], none, 0⟩ : SV)) (Bk.new W3 (svC (⟨p, t, t, [], none, 0⟩ : SV)) 31))
            have HLN : Hid ((l1).length + [(⟨p, t, t, [], none, 0⟩ : SV)].length ≤ 1000000) := Lib.hid (by have h1 := HS.out.2.1; rw [HSV.out, List.length_map] at h1; simp only [List.length_cons, List.length_nil]; omega)
            clear m3 f3 z3 hb4 H3 H2
            obtain ⟨kk, hkk⟩ : ∃ kk, (l1).length = kk := ⟨_, rfl⟩
            have HKK := Lib.hid hkk
            have hln : (l1 ++ [(⟨p, t, t, [], none, 0⟩ : SV)]).length = kk + 1 := by rw [List.length_append, hkk]; rfl
            have HLN2 := Lib.hid hln
            clear hkk hln
            go_upto_region 14 with (at_builtin; refine wpList_append_m svLen svOne _ rfl _ _ _ rfl 31 i0 _ 56 Try.underlying25 hi0T hz0 hz1 hz2 rfl (by decide) (by omega) (.slice (some ⟨gu, 0, none⟩) (svs.length + 1) cu) (l1) [(⟨p, t, t, [], none, 0⟩ : SV)] rfl HROW.out (some ⟨W3.heap.size, 0, none⟩) 1 1 rfl rfl HIN.out HLN.out ?_; intro v5 w5 o5 f5 h5; rw [HLN2.out] at o5; obtain ⟨g6, c6, hv6⟩ := row_block o5 (by omega); subst hv6; have H5 := Lib.hid (m_more H4.out (i := 3) rfl o5 f5 h5); have y0 : w5.cell? ⟨bl, 0, none⟩ = some (.slice (some ⟨gu, 0, none⟩) (svs.length + 1) cu) := (m_boxAt H5.out (i := 0) rfl).cell 0; have yf := (m_boxAt H5.out (i := 0) rfl).free 0; clear o5 f5 h5)
            have H6 : Hid (Here KM w (w5.setCell ⟨bl, 0, none⟩ (.slice (some ⟨g6, 0, none⟩) (kk + 1) c6)) (endOs bl bi ri (.slice (some ⟨g6, 0, none⟩) ((l1).length + 1) c6) [] (l1) ⟨p, t, t, [], none, 0⟩ ++ (tkOb (.slice (some ⟨Bt, ot, none⟩) n tc) ts :: (l1).map itsOb))) := Lib.hid (by
              have h6 := m_set H5.out (i := 0) rfl 0 (.slice (some ⟨g6, 0, none⟩) (kk + 1) c6)
              unfold endOs
              rw [HKK.out]
              exact h6)
            have hkl : kk ≤ 100000 := by have h1 := HS.out.2.1; rw [HSV.out, List.length_map, HKK.out] at h1; omega
            clear y0 yf H5 HLN2 d0 d1 H4 HROW HIN HLN x3
            generalize w5.setCell ⟨bl, 0, none⟩ (.slice (some ⟨g6, 0, none⟩) (kk + 1) c6) = W6 at *
            obtain ⟨i1, hi1⟩ := htm
            obtain ⟨ct, hct, hct1⟩ := (HT.out.mem t i1).1 hi1
            have hlk : ∀ W, Below w.heap.size w W → (Instr.lookup 57 (.map (some b0)) (.int .i64 t) false).run Try.prog W = .ok (.map (some ct)) W := fun W hW => by
              have := (HT.out.bel hW).tk.look (P := Try.prog) keyI Try.underlying57 (zeroMB W) (a := t) (wf64 (by unfold I64; omega)) false
              rw [vals_get, hct] at this
              exact this
            have l6 := hlk W6 H6.out.bel
            have d0 : W6.cell? ⟨bl, 0, none⟩ = some (.slice (some ⟨g6, 0, none⟩) (kk + 1) c6) := by have := (m_boxAt H6.out (i := 0) rfl).cell 0; rw [HKK.out] at this; exact this
            have d1 : W6.cell? ⟨bi, 0, none⟩ = some (.map (some ri)) := (m_boxAt H6.out (i := 2) rfl).cell 0
            have hctl := (HT.out.it t ct hct).lt
            have hwi := HBW.out
            have HCP := Lib.hid (copy_any ri ct ([] : MI) (mi p t) W6 (m_mapAt H6.out (i := 1) rfl) ((HT.out.bel H6.out.bel).it t ct hct) (by omega))
            have HIT : Hid (∀ i, i ∈ itmF L p t ↔ mget (mi p t) i = some ()) := Lib.hid (fun i => by
              rw [itmF_mem, HT.out.mem]
              exact ⟨fun ⟨c', h1, h2⟩ => h2, fun h1 => ⟨ct, hct, h1⟩⟩)
            have HNE : Hid (itmF L p t ≠ []) := Lib.hid (fun e => by
              have := (itmF_mem L p t i1).2 hi1
              rw [e] at this; cases this)
            clear hi1 hct hct1 hctl hlk
            go_wp2_with fail
            refine HCP.out.mono ?_
            rintro e W7 ⟨rfl, ⟨md, m7, k7⟩, f7⟩
            have H7 := Lib.hid (m_mapSet H6.out (i := 1) rfl m7 f7)
            have e0 : W7.cell? ⟨bl, 0, none⟩ = some (.slice (some ⟨g6, 0, none⟩) (kk + 1) c6) := by have := (m_boxAt H7.out (i := 0) rfl).cell 0; rw [HKK.out] at this; exact this
            have e3 : W7.cell? ⟨g6, kk * 4 + 2, none⟩ = some (.int .i64 t) := by have := sv_at (m_rowAt H7.out (i := 3) rfl) 2 (by omega); rw [HKK.out] at this; exact this
            have ef := own_free (m_rowAt H7.out (i := 3) rfl) (kk * 4 + 2)
            have qk : IntKind.i64.wrap (kk : Int) = (kk : Int) := IntWalk.i64_in _ (by omega)
            have hkk0 : (0 : Int) ≤ (kk : Int) := by omega
            have hkk1 : (kk : Int) < (kk : Int) + 1 := by omega
            have HK7 := Lib.hid k7
            clear m7 k7 f7 HCP l6 d0 d1 H6 hwi
            go_wp2_with fail
            have H8 : Hid (Here KM w (W7.setCell ⟨g6, kk * 4 + 2, none⟩ (.int .i64 t)) (endOs bl bi ri (.slice (some ⟨g6, 0, none⟩) (l1.length + 1) c6) md l1 ⟨p, t, t, [], none, 0⟩ ++ (tkOb (.slice (some ⟨Bt, ot, none⟩) n tc) ts :: l1.map itsOb))) := Lib.hid (by
              have h8 := m_rowSet H7.out (i := 3) (k := kk * 4 + 2) (u := .int .i64 t) rfl (by rw [HKK.out]; omega)
              rw [← HKK.out] at h8 ⊢
              rw [flat_set l1 _ 2 _ (by omega)] at h8
              have e2 : l1.flatMap svC ++ (svC (⟨p, t, t, [], none, 0⟩ : SV)).set 2 (.int .i64 t) = (l1 ++ [(⟨p, t, t, [], none, 0⟩ : SV)]).flatMap svC := by rw [List.flatMap_append]; rfl
              rw [e2] at h8
              exact h8)
            clear e0 e3 ef qk hkk0 hkk1 H7
            go_roundw
            case rel =>
              refine ⟨k + 1, l1.map seOf ++ [⟨p, t, t, putAll [] (itmF L p t)⟩], by omega, by go_num, Lib.hid ⟨HST.out HNE.out, ?_, ?_⟩, Lib.hid ⟨.inr ⟨_, md, l1, ⟨p, t, t, putAll [] (itmF L p t)⟩, rfl, H8.out, rfl, putAll_rise _ (List.Pairwise.nil : Rise []), fun i => ?_, fun i hi => ?_, hto.1, hto.2⟩⟩⟩
              · have := HS.out.2.1
                rw [HSV.out] at this
                rw [List.length_append, List.length_cons, List.length_nil]
                omega
              · intro t' ht'
                rw [List.take_add_one, HTK.out] at ht'
                rcases List.mem_append.1 ht' with h1 | h1
                · exact HS.out.2.2 t' h1
                · simp at h1
                  omega
              · rw [putAll_mem, HK7.out, HIT.out]
                simp [mget]
              · rcases (HK7.out i).1 hi with h1 | h1
                · simp [mget] at h1
                · exact ⟨t, (itmF_mem L p t i).1 ((HIT.out i).2 h1)⟩
            case measure => simp [intOf]; omega
    · obtain rfl : k = n := by omega
      have HF : Hid (allS gap (addsOf p (itmF L p) (ts.take k)) = allS gap (uptoT L p now)) := Lib.hid (by
        rw [adds_upto HLO.out.rise (List.Pairwise.sublist (List.take_sublist _ _) HTS.out.1) (fun t' => ?_)]
        constructor
        · intro h'
          exact ⟨(HTS.out.2.1 t').1 (List.mem_of_mem_take h'), HS.out.2.2 t' h'⟩
        · rintro ⟨h1, h2⟩
          have := (HTS.out.2.1 t').2 h1
          rwa [List.take_of_length_le (by rw [HTS.out.2.2]; omega)])
      rcases HO.out.st with ⟨hS, hhr⟩ | ⟨u, m, svs, x, hS, hhr, x1, x2, x3, x4, x5, x6⟩
      · subst hS
        have HH := Lib.hid hhr
        have c0 : wr.cell? ⟨bl, 0, none⟩ = some (.slice none 0 0) := (m_boxAt hhr (i := 0) rfl).cell 0
        have HE := Lib.hid (end_none bl bi wr _ ⟨none, 0, rfl⟩ c0)
        clear hhr HO
        go_wp2_with fail
        refine HE.out.mono ?_
        rintro e w9 ⟨rfl, rfl⟩
        go_wp2_with fail
        go_ret
        exact ⟨none, 0, [], rfl, Nat.le_refl _, Nat.zero_le _, ⟨.inl rfl, by simp⟩, (by intro x hx; cases hx), by rw [← HF.out, ← HS.out.1]; rfl, HH.out.bel⟩
      · subst hS
        have hsl := HS.out.2.1
        rw [List.length_append, List.length_map, List.length_cons, List.length_nil] at hsl
        have hml := unit_len (m_mapAt hhr (i := 1) rfl) x4
        obtain ⟨gu, cu, rfl⟩ := row_block (m_rowAt hhr (i := 3) rfl) (by omega)
        have HE := Lib.hid (end_any hhr (by omega) (by omega))
        have HX := Lib.hid (And.intro x2 x3)
        clear hhr HO x2 x3 x4
        go_wp2_with fail
        refine HE.out.mono ?_
        rintro e w9 ⟨rfl, z9, z1, z2, z3, z4, z5, h9⟩
        have c9 : w9.cell? ⟨bl, 0, none⟩ = some (.slice (some ⟨gu, 0, none⟩) (svs.length + 1) cu) := (m_boxAt h9 (i := 0) rfl).cell 0
        have e9 : endOs bl bi ri (.slice (some ⟨gu, 0, none⟩) (svs.length + 1) cu) m svs z9 ++ ((tkOb (.slice tb k tc) ts :: svs.map itsOb) ++ [itsOb z9]) = (allOs bl bi ri (.slice (some ⟨gu, 0, none⟩) (svs.length + 1) cu) m (svs ++ [z9]) ++ [tkOb (.slice tb k tc) ts]) ++ (svs ++ [z9]).map itsOb := by
          rw [endOs_all]; simp
        have H9 := Lib.hid h9
        rw [e9] at h9
        have HR := Lib.hid (sesSvs (i := 3) h9 (by simp [allOs]) rfl)
        have HSE : Hid (seOf z9 = x) := Lib.hid (se_same z1 z2 z3 z4 z5 HX.out.1 HX.out.2)
        clear h9 e9 z1 z2 z3 z4 z5 HE
        go_wp2_with fail
        go_ret
        obtain ⟨b', c', r1, r2, r3, r4, r5⟩ := HR.out
        refine ⟨b', c', svs ++ [z9], congrArg Ending.returned r1, r2, r3, r4, r5, ?_, H9.out.bel⟩
        rw [← HF.out, ← HS.out.1, List.map_append]
        simp [HSE.out]
end
set_option maxRecDepth 100000 in
set_option maxHeartbeats 4000000 in
theorem of_absent {w : World} {s r : Nat} {gap : Int} {mr : MR} {mt : ByteArray → MT} {mi : ByteArray → Int → MI} {role : Nat → Option Role} {B : List Nat} (h : SesR w s r gap mr mt mi role B) (p : ByteArray) (now : Int) (hp : p.size ≤ maxLen) (hb : mget mr p = none) :
    Calls Try.prog 34 #[.pointer (some ⟨s, 0, none⟩), .string p, .int .i64 now] w fun e w' => e = .returned (.slice none 0 0) ∧ Below w.heap.size w w' := by
  have c1 : w.cell? ⟨s, 1, none⟩ = some (.map (some r)) := h.bk.cell 1
  have l1 := h.lookP hp (v := .map none) (by rw [hb]; rfl)
  obtain ⟨bl, hbl⟩ : ∃ bl, w.heap.size = bl := ⟨_, rfl⟩
  obtain ⟨V, hV⟩ : ∃ V, ((w.alloc (.cells #[.slice none 0 0] 25)).alloc (.map #[] 0)).alloc (.cells #[.map (some (bl + 1))] 84) = V := ⟨_, rfl⟩
  have hsV : V.heap.size = bl + 1 + 1 + 1 := by rw [← hV]; simp [hbl]
  have hbV : Below w.heap.size w V := by rw [← hV]; exact (((Below.refl _ _).alloc (Nat.le_refl _) _).alloc (by simp) _).alloc (by simp; omega) _
  have hcV : V.cell? ⟨bl, 0, none⟩ = some (.slice none 0 0) := by
    have h1 := (Bk.new w [.slice none 0 0] 25).old (.map #[] 0)
    have h2 := (h1.old (.cells #[.map (some (bl + 1))] 84)).cell 0
    rw [hbl] at h2
    rw [← hV]
    exact h2
  have HK := Lib.hid (keysT_fn none V)
  have hb4 := (Below.refl V.heap.size V).alloc (Nat.le_refl _) (.cells #[.map none] 57)
  have HSO := Lib.hid (sortedT_nil (V.alloc (.cells #[.map none] 57)) V.heap.size (by simp) (by have := (Bk.new V [.map none] 57).cell 0; exact this))
  have H4 : Hid (Below w.heap.size w (V.alloc (.cells #[.map none] 57)) ∧ (V.alloc (.cells #[.map none] 57)).cell? ⟨bl, 0, none⟩ = some (.slice none 0 0)) := Lib.hid ⟨hbV.trans (hb4.mono hbV.size), (hb4.cell (p := ⟨bl, 0, none⟩) (show bl < V.heap.size by omega)).trans hcV⟩
  have hh := @run_makeMap Try.prog
  rw [hsV] at HSO HK
  clear h hb hb4 hbV hcV
  go_enter Try.func34, Try.ntmps34
  go_upto_region 5 with fail
  clear hV
  go_wp2_with fail
  refine HK.out.mono ?_
  rintro e w4 ⟨rfl, rfl⟩
  go_wp2_with fail
  refine HSO.out.mono ?_
  rintro e w5 ⟨rfl, b5⟩
  have HB : Hid (Below w.heap.size w w5) := Lib.hid (H4.out.1.trans (b5.mono H4.out.1.size))
  have c5 : w5.cell? ⟨bl, 0, none⟩ = some (.slice none 0 0) := (b5.cell (p := ⟨bl, 0, none⟩) (by simp; omega)).trans H4.out.2
  have HC := Lib.hid c5
  have HE := Lib.hid (end_none bl (bl + 1 + 1) w5 _ ⟨none, 0, rfl⟩ c5)
  clear b5 HSO HK H4 c1 l1 hh c5
  go_wp2_with fail
  go_loopw [26] (fun c wr => c = .int .i64 0 ∧ wr = w5) (fun _ _ => 0)
  case atStart => exact ⟨rfl, rfl⟩
  case round =>
    obtain ⟨rfl, rfl⟩ := hrel
    have c5 := HC.out
    go_wp2_with fail
    refine HE.out.mono ?_
    rintro e w6 ⟨rfl, rfl⟩
    go_wp2_with fail
    go_ret
    exact ⟨rfl, HB.out⟩
/-- one person's sessions up to a tick -/
theorem of_any {w : World} {s : Nat} {B : List Nat} {gap : Int} {L : List Tri} (h : SesAt w s B gap L) (p : ByteArray) (now : Int) (hp : p.size ≤ maxLen) (hnow : I64 now) :
    Calls Try.prog 34 #[.pointer (some ⟨s, 0, none⟩), .string p, .int .i64 now] w fun e w' => ∃ (b : Option Addr) (c : Nat) (svs : List SV), e = .returned (.slice b svs.length c) ∧ svs.length ≤ c ∧ c ≤ maxLen ∧ SvIn w' b svs ∧ SvNew w.heap.size svs ∧ svs.map seOf = allS gap (uptoT L p now) ∧ Below w.heap.size w w' := by
  obtain ⟨r, mr, mt, mi, role, h1, h2⟩ := h.ex
  cases hb : mget mr p with
  | some b0 => exact of_walk h1 h2 h.ok h.g h.n p now hp hnow hb
  | none =>
    refine (of_absent h1 p now hp hb).mono ?_
    rintro e w' ⟨rfl, hbel⟩
    have hu : uptoT L p now = [] := by
      unfold uptoT
      refine List.filter_eq_nil_iff.2 (fun a ha c => ?_)
      simp only [Bool.and_eq_true, decide_eq_true_eq] at c
      obtain ⟨p', t, i⟩ := a
      obtain ⟨b, c', h3, _⟩ := (h2.mem p' t i).1 ha
      obtain ⟨rfl, _⟩ := c
      rw [hb] at h3
      cases h3
    exact ⟨none, 0, [], rfl, Nat.le_refl _, Nat.zero_le _, ⟨.inl rfl, by simp⟩, (by intro x hx; cases hx), by rw [hu]; rfl, hbel⟩
end Go.Proofs.Ytbmjddmejmeknaa

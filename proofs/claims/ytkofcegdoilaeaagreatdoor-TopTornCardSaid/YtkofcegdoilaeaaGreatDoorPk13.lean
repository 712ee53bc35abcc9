/- event.Decode. Frames: size, Seal. frame.Open's closures. frame.Open's closure wrong. frame.Open. -/
import Derived.Test.YtkofcegdoilaeaaGreatDoorPk12
import Derived.Laws.EntriesVeiled
namespace Go.Proofs.YtkofcegdoilaeaaGreatDoor
open Go.RowKit Go.MapKept Go.Maps
set_option linter.unusedVariables false
set_option linter.unusedSimpArgs false
namespace Tr
open Es Tl Rk
theorem drop_next {xs A R : Bs} {k : Nat} (h : xs.drop k = A ++ R) : xs.drop (k + A.length) = R := by
  rw [← List.drop_drop, h]; simp
def ev00 : Ev := ⟨⟨#[]⟩, 0, 0, 0, ⟨#[]⟩, ⟨#[]⟩, 0, ⟨#[]⟩⟩
/-- while an event is read -/
structure Ds (w W : World) (b : Option Addr) (n cap : Nat) (k : Nat) (e : Ev) : Prop where
  rd : Bk W (w.heap.size + 1) [.slice b n cap, .int .i64 k, .int .i64 0] 124
  ev : Bk W (w.heap.size + 1 + 1) (evC e) 60
  rs : Bk W w.heap.size (evC ev00) 60
  bl : Below w.heap.size w W
theorem Ds.toRd {w W : World} {b : Option Addr} {n cap : Nat} {k : Nat} {e : Ev} {xs : Bs} (h : Ds w W b n cap k e) (hX : BIn w b xs) (hn : n = xs.length) (hc : n ≤ cap) (hs : n ≤ 1000) (hne : xs ≠ []) : Rd W (w.heap.size + 1) b n cap xs k := by
  refine ⟨h.rd, hX.bel h.bl, fun B o e c => ?_, hn, hc, hs⟩
  rcases hX with h0 | ⟨B', o', e', hl, _⟩
  · exact hne (List.map_eq_nil_iff.1 h0)
  · rw [e'] at e; cases e; omega
theorem Ds.call {w W W' : World} {b : Option Addr} {n cap : Nat} {k k' : Nat} {e : Ev} {xs : Bs} (h : Ds w W b n cap k e) (hr : Rd W' (w.heap.size + 1) b n cap xs k') (hf : Fr (fun q => q = w.heap.size + 1) W W') : Ds w W' b n cap k' e :=
  ⟨hr.bk, h.ev.fr hf (by omega), h.rs.fr hf (by omega), h.bl.trans (hf.below h.bl.size (fun b hb => by omega))⟩
theorem Ds.put {w W : World} {b : Option Addr} {n cap : Nat} {k : Nat} {e e' : Ev} (h : Ds w W b n cap k e) (i : Nat) (u : Value) (he : (evC e).set i u = evC e') : Ds w (W.setCell ⟨w.heap.size + 1 + 1, i, none⟩ u) b n cap k e' :=
  ⟨h.rd.other _ _ _ (by omega), by rw [← he]; exact h.ev.set i u, h.rs.other _ _ _ (by omega), h.bl.setCell (by show w.heap.size ≤ w.heap.size + 1 + 1; omega) _⟩
theorem Ds.bel {w W W' : World} {b : Option Addr} {n cap : Nat} {k : Nat} {e : Ev} (h : Ds w W b n cap k e) (hb : Below W.heap.size W W') : Ds w W' b n cap k e :=
  ⟨h.rd.bel hb, h.ev.bel hb, h.rs.bel hb, h.bl.trans (hb.mono h.bl.size)⟩
theorem finE {fn : Func} {q p q2 : Tmp} {tmps : Array Value} {w : World} {g : Nat} {s : Ev} (h : fn.results = #[.cell p 60, .tmp q, .tmp q2]) (hp : tmps.getD p undef = .pointer (some ⟨g, 0, none⟩)) (hb : Bk w g (evC s) 60) : (results fn tmps).run Tryz.prog w = .ok (.tuple #[.agg (evC s).toArray, tmps.getD q undef, tmps.getD q2 undef]) w := by
  have := run_loadVar_row (P := Tryz.prog) w g 60 _ _ (0, 0) _ hb Tryz.underlying60 rfl (by rw [List.size_toArray, evLen]; kernel_rfl)
  have hp' : tmps[p]?.getD undef = .pointer (some ⟨g, 0, none⟩) := by simpa using hp
  simp [results, h, hp', asAddr, this, Result.andThen]
set_option maxRecDepth 100000 in
set_option maxHeartbeats 8000000 in
theorem decode_any {e : Ev} (h : TaleEv e) (b : Option Addr) (cap : Nat) (w : World) (hG : Glob w) (hX : BIn w b (encB e)) (hc : (encB e).length ≤ cap) :
    Calls Tryz.prog 44 #[.slice b (encB e).length cap] w fun r w' => r = .returned (.tuple #[evV e, .int .i64 (encB e).length, .int .i64 0]) ∧ Below w.heap.size w w' := by
  have hk := enc_ok h
  have hL := enc_len hk
  have HMAY := Lib.hid (fun W (hW : Below w.heap.size w W) => may_any h W (hG.bel hW))
  obtain ⟨xs, hxs⟩ : ∃ xs, encB e = xs := ⟨_, rfl⟩
  obtain ⟨n, hn⟩ : ∃ n, xs.length = n := ⟨_, rfl⟩
  rw [hxs] at hL hX hc ⊢
  rw [hn] at hL hc ⊢
  have hne : xs ≠ [] := fun c => by rw [c] at hn; simp at hn; omega
  have HRD : Hid (∀ W k e', Ds w W b n cap k e' → Rd W (w.heap.size + 1) b n cap xs k) := Lib.hid (fun W k e' hd => hd.toRd hX hn.symm hc (by omega) hne)
  clear h hG hX
  obtain ⟨hs1, hs2, hs3, hs4, hnn, ha, hkd, hv⟩ := hk
  obtain ⟨s, m, a, k, p, i, v, x⟩ := e
  simp only at hs1 hs2 hs3 hs4 hnn ha hkd hv
  obtain ⟨m, rfl⟩ : ∃ m' : Nat, m = (m' : Int) := ⟨m.toNat, by omega⟩
  obtain ⟨a, rfl⟩ : ∃ m : Nat, a = (m : Int) := ⟨a.toNat, by omega⟩
  obtain ⟨k, rfl⟩ : ∃ m : Nat, k = (m : Int) := ⟨k.toNat, by omega⟩
  obtain ⟨v, rfl⟩ : ∃ m : Nat, v = (m : Int) := ⟨v.toNat, by omega⟩
  have d0 : xs.drop 0 = UInt8.ofNat k :: (txB s ++ (nmB m ++ (nmB a ++ (txB p ++ (txB i ++ (nmB v ++ (txB x ++ []))))))) := by
    rw [← hxs]
    unfold encB
    simp [List.append_assoc]
  obtain ⟨q0, d1, _⟩ := drop_at d0
  have d2 := drop_next d1
  have d3 := drop_next d2
  have d4 := drop_next d3
  have d5 := drop_next d4
  have d6 := drop_next d5
  have d7 := drop_next d6
  have hlen := congrArg List.length d0
  simp only [List.drop_zero, List.length_cons, List.length_append, List.length_nil, txB_len] at hlen
  simp only [txB_len, Nat.zero_add] at d1 d2 d3 d4 d5 d6 d7
  have HE : Hid (n = 1 + (s.size + 1) + (nmB m).length + (nmB a).length + (p.size + 1) + (i.size + 1) + (nmB v).length + (x.size + 1)) := Lib.hid (by omega)
  have D := Lib.hid (And.intro q0 (And.intro d1 (And.intro d2 (And.intro d3 (And.intro d4 (And.intro d5 (And.intro d6 d7)))))))
  have HS0 : Hid (Ds w (((w.alloc (.cells (evC ev00).toArray 60)).alloc (.cells #[.slice b n cap, .int .i64 0, .int .i64 0] 124)).alloc (.cells (evC ev00).toArray 60)) b n cap 0 ev00) := Lib.hid
    ⟨(Bk.new' w (.cells (evC ev00).toArray 60) [.slice b n cap, .int .i64 ((0 : Nat) : Int), .int .i64 0] 124).old _, bk_at (evC ev00) 60 (by simp), ((Bk.new w (evC ev00) 60).old _).old _, (((Below.refl _ _).alloc (Nat.le_refl _) _).alloc (by simp) _).alloc (by simp; omega) _⟩
  unfold evC ev00 at HS0
  have r1 : IntKind.i64.wrap (k : Int) = (k : Int) := IntWalk.i64_in _ (by omega)
  clear q0 d0 d1 d2 d3 d4 d5 d6 d7 hlen hne hxs hn
  unfold evV
  go_enter Tryz.func44, Tryz.ntmps44
  go_wp2_with fail
  have hO := one_any (HRD.out _ _ _ HS0.out) D.out.1
  rw [show (UInt8.ofNat k).toNat = k by rw [UInt8.toNat_ofNat', Nat.mod_eq_of_lt (by omega)]] at hO
  refine hO.mono ?_
  rintro e w1 ⟨rfl, h1, f1⟩
  have HS1 := Lib.hid (HS0.out.call h1 f1)
  clear hO h1 f1 HS0
  have HP1 := Lib.hid (HS1.out.put (e' := ⟨⟨#[]⟩, 0, 0, k, ⟨#[]⟩, ⟨#[]⟩, 0, ⟨#[]⟩⟩) 3 (.int .i64 k) rfl)
  have q1 : w1.cell? ⟨w.heap.size + 1 + 1, 3, none⟩ = some (.int .i64 0) := HS1.out.ev.cell 3
  have z1 := HS1.out.ev.free 3
  go_wp2_with fail
  clear q1 z1 HS1
  refine (text_any s (HRD.out _ _ _ HP1.out) D.out.2.1 (by omega)).mono ?_
  rintro e w2 ⟨rfl, h1, f1⟩
  have HS2 := Lib.hid (HP1.out.call h1 f1)
  clear h1 f1 HP1
  have HP2 := Lib.hid (HS2.out.put (e' := ⟨s, 0, 0, k, ⟨#[]⟩, ⟨#[]⟩, 0, ⟨#[]⟩⟩) 0 (.string s) rfl)
  have q1 : w2.cell? ⟨w.heap.size + 1 + 1, 0, none⟩ = some (.string ⟨#[]⟩) := HS2.out.ev.cell 0
  have z1 := HS2.out.ev.free 0
  go_wp2_with fail
  clear q1 z1 HS2
  refine (number_any m (HRD.out _ _ _ HP2.out) D.out.2.2.1 (by omega)).mono ?_
  rintro e w3 ⟨rfl, h1, f1⟩
  have HS3 := Lib.hid (HP2.out.call h1 f1)
  clear h1 f1 HP2
  have HP3 := Lib.hid (HS3.out.put (e' := ⟨s, m, 0, k, ⟨#[]⟩, ⟨#[]⟩, 0, ⟨#[]⟩⟩) 1 (.int .i64 m) rfl)
  have q1 : w3.cell? ⟨w.heap.size + 1 + 1, 1, none⟩ = some (.int .i64 0) := HS3.out.ev.cell 1
  have z1 := HS3.out.ev.free 1
  go_wp2_with fail
  clear q1 z1 HS3
  refine (number_any a (HRD.out _ _ _ HP3.out) D.out.2.2.2.1 (by omega)).mono ?_
  rintro e w4 ⟨rfl, h1, f1⟩
  have HS4 := Lib.hid (HP3.out.call h1 f1)
  clear h1 f1 HP3
  have HP4 := Lib.hid (HS4.out.put (e' := ⟨s, m, a, k, ⟨#[]⟩, ⟨#[]⟩, 0, ⟨#[]⟩⟩) 2 (.int .i64 a) rfl)
  have q1 : w4.cell? ⟨w.heap.size + 1 + 1, 2, none⟩ = some (.int .i64 0) := HS4.out.ev.cell 2
  have z1 := HS4.out.ev.free 2
  go_wp2_with fail
  clear q1 z1 HS4
  refine (text_any p (HRD.out _ _ _ HP4.out) D.out.2.2.2.2.1 (by omega)).mono ?_
  rintro e w5 ⟨rfl, h1, f1⟩
  have HS5 := Lib.hid (HP4.out.call h1 f1)
  clear h1 f1 HP4
  have HP5 := Lib.hid (HS5.out.put (e' := ⟨s, m, a, k, p, ⟨#[]⟩, 0, ⟨#[]⟩⟩) 4 (.string p) rfl)
  have q1 : w5.cell? ⟨w.heap.size + 1 + 1, 4, none⟩ = some (.string ⟨#[]⟩) := HS5.out.ev.cell 4
  have z1 := HS5.out.ev.free 4
  go_wp2_with fail
  clear q1 z1 HS5
  refine (text_any i (HRD.out _ _ _ HP5.out) D.out.2.2.2.2.2.1 (by omega)).mono ?_
  rintro e w6 ⟨rfl, h1, f1⟩
  have HS6 := Lib.hid (HP5.out.call h1 f1)
  clear h1 f1 HP5
  have HP6 := Lib.hid (HS6.out.put (e' := ⟨s, m, a, k, p, i, 0, ⟨#[]⟩⟩) 5 (.string i) rfl)
  have q1 : w6.cell? ⟨w.heap.size + 1 + 1, 5, none⟩ = some (.string ⟨#[]⟩) := HS6.out.ev.cell 5
  have z1 := HS6.out.ev.free 5
  go_wp2_with fail
  clear q1 z1 HS6
  refine (number_any v (HRD.out _ _ _ HP6.out) D.out.2.2.2.2.2.2.1 (by omega)).mono ?_
  rintro e w7 ⟨rfl, h1, f1⟩
  have HS7 := Lib.hid (HP6.out.call h1 f1)
  clear h1 f1 HP6
  have HP7 := Lib.hid (HS7.out.put (e' := ⟨s, m, a, k, p, i, v, ⟨#[]⟩⟩) 6 (.int .i64 v) rfl)
  have q1 : w7.cell? ⟨w.heap.size + 1 + 1, 6, none⟩ = some (.int .i64 0) := HS7.out.ev.cell 6
  have z1 := HS7.out.ev.free 6
  go_wp2_with fail
  clear q1 z1 HS7
  refine (text_any x (HRD.out _ _ _ HP7.out) D.out.2.2.2.2.2.2.2 (by omega)).mono ?_
  rintro e w8 ⟨rfl, h1, f1⟩
  have HS8 := Lib.hid (HP7.out.call h1 f1)
  clear h1 f1 HP7
  have HP8 := Lib.hid (HS8.out.put (e' := ⟨s, m, a, k, p, i, v, x⟩) 7 (.string x) rfl)
  have q1 : w8.cell? ⟨w.heap.size + 1 + 1, 7, none⟩ = some (.string ⟨#[]⟩) := HS8.out.ev.cell 7
  have z1 := HS8.out.ev.free 7
  go_upto_region 11 with fail
  clear q1 z1 HS8
  generalize w8.setCell ⟨w.heap.size + 1 + 1, 7, none⟩ (.string x) = V at HP8 ⊢
  rw [show 1 + (s.size + 1) + (nmB m).length + (nmB a).length + (p.size + 1) + (i.size + 1) + (nmB v).length + (x.size + 1) = n from HE.out.symm] at HP8
  have e2 : V.cell? ⟨w.heap.size + 1, 2, none⟩ = some (.int .i64 0) := HP8.out.rd.cell 2
  have c0 : V.cell? ⟨w.heap.size + 1 + 1, 0, none⟩ = some (.string s) := HP8.out.ev.cell 0
  have c1 : V.cell? ⟨w.heap.size + 1 + 1, 1, none⟩ = some (.int .i64 m) := HP8.out.ev.cell 1
  have c2 : V.cell? ⟨w.heap.size + 1 + 1, 2, none⟩ = some (.int .i64 a) := HP8.out.ev.cell 2
  have c3 : V.cell? ⟨w.heap.size + 1 + 1, 3, none⟩ = some (.int .i64 k) := HP8.out.ev.cell 3
  have c4 : V.cell? ⟨w.heap.size + 1 + 1, 4, none⟩ = some (.string p) := HP8.out.ev.cell 4
  have c5 : V.cell? ⟨w.heap.size + 1 + 1, 5, none⟩ = some (.string i) := HP8.out.ev.cell 5
  have c6 : V.cell? ⟨w.heap.size + 1 + 1, 6, none⟩ = some (.int .i64 v) := HP8.out.ev.cell 6
  have c7 : V.cell? ⟨w.heap.size + 1 + 1, 7, none⟩ = some (.string x) := HP8.out.ev.cell 7
  go_wp2_with fail
  refine (HMAY.out V HP8.out.bl).mono ?_
  rintro e w10 ⟨rfl, b10⟩
  have HS := Lib.hid (HP8.out.bel b10)
  have e2 : w10.cell? ⟨w.heap.size + 1, 2, none⟩ = some (.int .i64 0) := HS.out.rd.cell 2
  clear b10 HP8 c0 c1 c2 c3 c4 c5 c6 c7 HMAY HRD D
  go_upto_region 15 with fail
  obtain ⟨e, he⟩ : ∃ e : Ev, e = ⟨s, m, a, k, p, i, v, x⟩ := ⟨_, rfl⟩
  rw [← he] at HS
  have HEV : Hid (.agg #[.string s, .int .i64 m, .int .i64 a, .int .i64 k, .string p, .string i, .int .i64 v, .string x] = (.agg (evC e).toArray : Value)) := Lib.hid (by rw [he]; rfl)
  rw [HEV.out]
  clear he
  obtain ⟨S, hS⟩ : ∃ S : World → Prop, S = fun X => Bk X (w.heap.size + 1 + 1) (evC e) 60 ∧ Bk X (w.heap.size + 1) [.slice b n cap, .int .i64 n, .int .i64 0] 124 ∧ (∃ e0, Bk X w.heap.size (evC e0) 60) := ⟨_, rfl⟩
  have s0 : S w10 := by rw [hS]; exact ⟨HS.out.ev, HS.out.rd, _, HS.out.rs⟩
  have HS1 : Hid (∀ X, S X → X.rangeAt (w.heap.size + 1 + 1) 0 (evC e)) := Lib.hid (fun X h => by rw [hS] at h; exact h.1.range 0 _ (fun j v hj => by rw [Nat.zero_add]; exact hj))
  have HS2 : Hid (∀ X, S X → X.cell? ⟨w.heap.size + 1, 1, none⟩ = some (.int .i64 n)) := Lib.hid (fun X h => by rw [hS] at h; exact h.2.1.cell 1)
  have HS3 : Hid (∀ X, S X → S (X.setRow w.heap.size (evC e).toArray)) := Lib.hid (fun X h => by rw [hS] at h ⊢; obtain ⟨h1, h2, e0, h3⟩ := h; exact ⟨h1.rowOther _ _ (by omega), h2.rowOther _ _ (by omega), e, h3.setRow _⟩)
  have HS4 : Hid (∀ X, S X → S X.drew) := Lib.hid (fun X h => by rw [hS] at h ⊢; exact h)
  have HS6 : Hid (∀ X, S X → ∃ e0, Bk X w.heap.size (evC e0) 60) := Lib.hid (fun X h => by rw [hS] at h; exact h.2.2)
  have HSR := HS.out.rs
  have HSB := HS.out.bl
  clear hS
  refine wp_region_held_drew (S := S) (by kernel_rfl) (HS4.out _ s0) (fun hHeld => ?_)
  refine take_at (i := 0) (v := .agg (evC e).toArray) (some 58) rfl rfl (by kernel_rfl) (by kernel_rfl) (by kernel_rfl) (fun _ _ _ h => h) (by rfl) (fun W hW => exec_load_row 60 _ rfl (w.heap.size + 1 + 1) 0 rfl (evC e) _ W (HS1.out W hW) Tryz.underlying60 rfl (by rw [evLen]; kernel_rfl)) (by assumption) ?_
  (try simp only [Act.put, List.setIfInBounds_toArray, List.set_cons_zero, List.set_cons_succ])
  refine take_at (i := 1) (v := ?_) (some 59) rfl rfl (by kernel_rfl) (by kernel_rfl) (by kernel_rfl) (fun _ _ _ h => h) (by rfl) ?_ (by assumption) ?_
  rotate_left
  · intro w hSw
    (try dsimp only at hSw)
    go_simp
    try (with_reducible rfl)
  (try simp only [Act.put, List.setIfInBounds_toArray, List.set_cons_zero, List.set_cons_succ])
  refine take_at (i := 2) (v := ?_) (some 60) rfl rfl (by kernel_rfl) (by kernel_rfl) (by kernel_rfl) (fun _ _ _ h => h) (by rfl) ?_ (by assumption) ?_
  rotate_left
  · intro w hSw
    (try dsimp only at hSw)
    go_simp
    try (with_reducible rfl)
  (try simp only [Act.put, List.setIfInBounds_toArray, List.set_cons_zero, List.set_cons_succ])
  refine take_at (i := 3) (v := ?_) (some 61) rfl rfl (by kernel_rfl) (by kernel_rfl) (by kernel_rfl) (fun _ _ _ h => h) (by rfl) ?_ (by assumption) ?_
  rotate_left
  · intro w hSw
    (try dsimp only at hSw)
    go_simp
    try (with_reducible rfl)
  (try simp only [Act.put, List.setIfInBounds_toArray, List.set_cons_zero, List.set_cons_succ])
  refine take_at (i := 4) (v := ?_) (some 62) rfl rfl (by kernel_rfl) (by kernel_rfl) (by kernel_rfl) (fun _ _ _ h => h) (by rfl) ?_ (by assumption) ?_
  rotate_left
  · intro w hSw
    (try dsimp only at hSw)
    have hq := HS2.out w hSw
    go_simp
    try (with_reducible rfl)
  (try simp only [Act.put, List.setIfInBounds_toArray, List.set_cons_zero, List.set_cons_succ])
  refine call_at (i := 5) (by kernel_rfl) rfl (fun K hK => ?_)
  rw [if_pos (by rfl)]
  obtain ⟨e0, hb3⟩ := HS6.out _ hHeld
  refine wp_store_row 60 _ _ rfl w.heap.size (evC e).toArray rfl rfl 60 (evC e0).toArray hb3 (by rw [List.size_toArray, evLen]; kernel_rfl) (by rw [List.size_toArray, List.size_toArray, evLen, evLen]) (all_oneCell_toArray (evOne e)) ?_
  refine hK.out _ _ (HS3.out _ hHeld) (fun hHeld => ?_)
  clear hK K hb3
  (try simp only [Act.put, List.setIfInBounds_toArray, List.set_cons_zero, List.set_cons_succ])
  refine take_at (i := 6) (v := ?_) (some 3) rfl rfl (by kernel_rfl) (by kernel_rfl) (by kernel_rfl) (fun _ _ _ h => h) (by rfl) ?_ (by assumption) ?_
  rotate_left
  · intro w hSw
    (try dsimp only at hSw)
    go_simp
    try (with_reducible rfl)
  (try simp only [Act.put, List.setIfInBounds_toArray, List.set_cons_zero, List.set_cons_succ])
  refine take_at (i := 7) (v := ?_) (some 4) rfl rfl (by kernel_rfl) (by kernel_rfl) (by kernel_rfl) (fun _ _ _ h => h) (by rfl) ?_ (by assumption) ?_
  rotate_left
  · intro w hSw
    (try dsimp only at hSw)
    go_simp
    try (with_reducible rfl)
  (try simp only [Act.put, List.setIfInBounds_toArray, List.set_cons_zero, List.set_cons_succ])
  refine wpAnyH_done (by kernel_rfl) ?_ _
  go_wp2_with fail
  refine bodyPost_ret (finE (s := e) (g := w.heap.size) rfl rfl ?_) rfl ⟨by rw [HEV.out]; rfl, bel_setRow HSB.drew (Nat.le_refl _) _⟩
  exact (show Bk w10.drew w.heap.size _ _ from HSR).setRow (evC e)
end Tr
end Go.Proofs.YtkofcegdoilaeaaGreatDoor
namespace Go.Proofs.YtkofcegdoilaeaaGreatDoor
open Go.RowKit Go.MapKept Go.Maps
set_option linter.unusedVariables false
set_option linter.unusedSimpArgs false
namespace Tr
open Es Tl Rk
theorem byV_mod (n : Nat) : byV (UInt8.ofNat n) = .int .u8 ((n % 256 : Nat) : Int) := by unfold byV; rw [UInt8.toNat_ofNat']
theorem in_bytes (w : World) (cs : Array Value) (ys : Bs) (h : cs.toList = ys.map byV) : InW (w.alloc (.cells cs 5)) (some ⟨w.heap.size, 0, none⟩) 1 (ys.map bC) := by
  refine .inr ⟨w.heap.size, 0, rfl, by simp, fun i c hi j u hj => ?_⟩
  have hb : Bk (w.alloc (.cells cs 5)) w.heap.size cs.toList 5 := by
    have := Bk.new w cs.toList 5
    simpa using this
  rw [List.getElem?_map] at hi
  obtain ⟨x, hx, rfl⟩ := Option.map_eq_some_iff.1 hi
  match j, hj with
  | 0, hj =>
    cases hj
    rw [Nat.zero_add, Nat.mul_one, Nat.add_zero, hb.cell, h, List.getElem?_map, hx]; rfl
theorem BIn.at {w : World} {b : Option Addr} {xs : Bs} (h : BIn w b xs) {i : Nat} {c : UInt8} (hc : xs[i]? = some c) : ∃ B off, b = some ⟨B, off, none⟩ ∧ B < w.heap.size ∧ w.cell? ⟨B, off + i, none⟩ = some (.int .u8 (c.toNat : Int)) := inw_at (f := byV) h hc
set_option maxRecDepth 100000 in
set_option maxHeartbeats 2000000 in
theorem size_any (b : Option Addr) (cap : Nat) (xs rest : Bs) (z : UInt8) (w : World) (hX : BIn w b xs) (hx : xs = 0 :: 0 :: z :: rest) (n : Nat) (hn : n = xs.length) :
    Calls Tryz.prog 76 #[.slice b n cap] w fun e w' => e = .returned (.int .i64 (z.toNat : Int)) ∧ ∃ m, w' = w.drewN m := by
  obtain ⟨B, off, rfl, hB, h0⟩ := hX.at (i := 0) (c := 0) (by rw [hx]; rfl)
  obtain ⟨B', off', e, _, h1⟩ := hX.at (i := 1) (c := 0) (by rw [hx]; rfl)
  cases e
  obtain ⟨B', off', e, _, h2⟩ := hX.at (i := 2) (c := z) (by rw [hx]; rfl)
  cases e
  have hz := z.toNat_lt
  generalize z.toNat = z' at h2 hz ⊢
  have h0 : w.cell? ⟨B, off, none⟩ = some (.int .u8 0) := h0
  have h1 : w.cell? ⟨B, off + 1, none⟩ = some (.int .u8 0) := h1
  have n0 : (0 : Int) < (n : Int) := by rw [hn, hx]; simp; omega
  have n1 : (1 : Int) < (n : Int) := by rw [hn, hx]; simp; omega
  have n2 : (2 : Int) < (n : Int) := by rw [hn, hx]; simp; omega
  have r1 : IntKind.i64.wrap (z' : Int) = (z' : Int) := IntWalk.i64_in _ (by omega)
  have r2 : bits .or .i64 0 (z' : Int) = (z' : Int) := (bits_join .i64 62 (by decide) wraps_i64 8 0 _ (by omega) (by omega) (by omega) (by omega) (by omega) (by omega)).trans (by omega)
  have r3 : bits .or .i64 0 0 = 0 := by decide
  clear hX hx hn
  go_enter Tryz.func76, Tryz.ntmps76
  go_wp2_with fail
  go_quiet (fail)
  go_wp2_with fail
  go_ret
  exact ⟨rfl, _, rfl⟩
theorem MkB.made {w w' : World} {c : Nat} (h : w'.ownsRow w.heap.size 5 1 (.slice (some ⟨w.heap.size, 0, none⟩) 0 c) 0 []) (hg : w.grownBy w' none) : MkB w w' (.slice (some ⟨w.heap.size, 0, none⟩) 0 c) [] :=
  ⟨(own_down h).1, own_at (Nat.le_refl _), (Fr.of_grown hg).below (Nat.le_refl _) (fun b hb => by cases hb)⟩
theorem hdr_cells (n : Nat) (h : n ≤ 200) : ([.int .u8 0, .int .u8 0, .int .u8 (n : Int), .int .u8 255, .int .u8 255, .int .u8 ((255 - n : Nat) : Int)] : List Value) = (hdr n).map byV := by
  unfold hdr
  simp only [List.map_cons, List.map_nil]
  rw [byV_of n (by omega), byV_of (255 - n) (by omega)]
  rfl
set_option maxRecDepth 100000 in
set_option maxHeartbeats 4000000 in
theorem seal_any (b : Option Addr) (cap : Nat) (xs : Bs) (w : World) (hX : BIn w b xs) (hn : xs.length ≤ 200) (n : Nat) (hnl : n = xs.length) :
    Calls Tryz.prog 53 #[.slice b n cap] w fun e w' => ∃ v, e = .returned (.tuple #[v, .int .i64 0]) ∧ MkB w w' v (frB xs) := by
  obtain ⟨iB, hiB, hzB, hsB, hbB⟩ := tinfo infoByte
  rw [← hnl] at hn
  have HX := Lib.hid hX
  have HN := Lib.hid hnl
  clear hX hnl
  have a0 : ¬ (65536 : Int) < (n : Int) := by omega
  have a1 : (n : Int) / 65536 = 0 := by omega
  have a2 : (n : Int) / 256 = 0 := by omega
  have a3 : IntKind.u8.wrap (n : Int) = (n : Int) := by rw [IntKind.wrap_u8]; omega
  obtain ⟨n6, h6⟩ : ∃ n6, 6 + n = n6 := ⟨_, rfl⟩
  obtain ⟨n10, h10⟩ : ∃ n10, n6 + 4 = n10 := ⟨_, rfl⟩
  obtain ⟨m, hm⟩ : ∃ m, 255 - n = m := ⟨_, rfl⟩
  have a4 : IntKind.i64.wrap (6 + (n : Int)) = (n6 : Int) := (IntWalk.i64_in _ (by omega)).trans (by omega)
  have a5 : IntKind.i64.wrap ((n6 : Int) + 4) = (n10 : Int) := (IntWalk.i64_in _ (by omega)).trans (by omega)
  have a6 : IntKind.u8.wrap (255 - (n : Int)) = (m : Int) := by rw [IntKind.wrap_u8]; omega
  have a7 : IntKind.u8.wrap 255 = 255 := by decide
  have a8 : IntKind.u8.wrap 0 = 0 := by decide
  have HH : Hid (([.int .u8 0, .int .u8 0, .int .u8 (n : Int), .int .u8 255, .int .u8 255, .int .u8 (m : Int)] : List Value) = (hdr n).map byV) := Lib.hid (by rw [← hm]; exact hdr_cells n hn)
  obtain ⟨V, hr, hown, hgr⟩ := run_make_own (P := Tryz.prog) w w.heap.size 22 5 iB _ 1 Tryz.underlying22 hiB hzB hsB .i64 .i64 n10 (by rw [hbB]; omega) (by unfold maxLen; omega) (Nat.le_refl _)
  have HM := Lib.hid (MkB.made hown hgr)
  clear h6 h10 hm hown hgr
  go_enter Tryz.func53, Tryz.ntmps53
  go_upto_region 6 with fail
  clear hr
  have HM2 := Lib.hid (HM.out.alloc (.cells #[.int .u8 0, .int .u8 0, .int .u8 (n : Int), .int .u8 255, .int .u8 255, .int .u8 (m : Int)] 5))
  have HIN := Lib.hid (in_bytes V #[.int .u8 0, .int .u8 0, .int .u8 (n : Int), .int .u8 255, .int .u8 255, .int .u8 (m : Int)] (hdr n) HH.out)
  have HLN : Hid (([] : Bs).length + (hdr n).length ≤ 1000000) := Lib.hid (by simp [hdr])
  go_upto_region 7 with (at_builtin; refine wpList_append_m bLen bOne _ rfl _ _ _ rfl 5 iB _ 1 Tryz.underlying22 hiB hzB hsB hbB rfl (by decide) (by omega) (.slice (some ⟨w.heap.size, 0, none⟩) 0 n10) [] (hdr n) rfl HM2.out.tx (some ⟨V.heap.size, 0, none⟩) 6 6 rfl rfl HIN.out HLN.out ?_; intro v5 w5 o5 f5 h5)
  have HM5 := Lib.hid (HM2.out.more o5 f5 h5)
  rw [List.nil_append] at HM5
  clear o5 f5 h5 HM HM2 HIN HLN HH
  have HIX : Hid (InW w5 b 1 (xs.map bC)) := Lib.hid (HX.out.bel HM5.out.bl)
  have HL2 : Hid ((hdr n).length + xs.length ≤ 1000000) := Lib.hid (by have := HN.out; simp [hdr]; omega)
  go_upto_region 8 with (at_builtin; refine wpList_append_m bLen bOne _ rfl _ _ _ rfl 5 iB _ 1 Tryz.underlying22 hiB hzB hsB hbB rfl (by decide) (by omega) v5 (hdr n) xs rfl HM5.out.tx b n cap rfl HN.out HIX.out HL2.out ?_; intro v6 w6 o6 f6 h6)
  have HM6 := Lib.hid (HM5.out.more o6 f6 h6)
  have HY : Hid (frB xs = (hdr n ++ xs) ++ sum4 (hdr n ++ xs)) := Lib.hid (by unfold frB; rw [HN.out])
  have HYL : Hid ((hdr n ++ xs).length ≤ 300) := Lib.hid (by have := HN.out; simp [hdr]; omega)
  clear o6 f6 h6 HM5 HIX HL2
  generalize hdr n ++ xs = ys at HM6 HY HYL
  obtain ⟨b7, c7, rfl, _, _, hi7⟩ := HM6.out.read bLen (by decide)
  have HS := Lib.hid (sum_any b7 c7 ys w6 hi7 (by have := HYL.out; omega))
  have HSL := Lib.hid (sumN_lt ys)
  obtain ⟨ly, hly⟩ : ∃ ly, ys.length = ly := ⟨_, rfl⟩
  have HLY := Lib.hid hly
  rw [hly] at HS HM6 ⊢
  clear hi7 hly
  go_wp2_with fail
  refine HS.out.mono ?_
  rintro e w7 ⟨rfl, rfl⟩
  have hsl := HSL.out
  have HZ : Hid (sum4 ys = [UInt8.ofNat (sumN ys / 16777216), UInt8.ofNat (sumN ys / 65536), UInt8.ofNat (sumN ys / 256), UInt8.ofNat (sumN ys)]) := Lib.hid rfl
  generalize sumN ys = S at hsl HZ ⊢
  obtain ⟨z1, hz1⟩ : ∃ z, S / 16777216 % 256 = z := ⟨_, rfl⟩
  obtain ⟨z2, hz2⟩ : ∃ z, S / 65536 % 256 = z := ⟨_, rfl⟩
  obtain ⟨z3, hz3⟩ : ∃ z, S / 256 % 256 = z := ⟨_, rfl⟩
  obtain ⟨z4, hz4⟩ : ∃ z, S % 256 = z := ⟨_, rfl⟩
  have b1 : IntKind.u8.wrap ((S : Int) / 16777216) = (z1 : Int) := by rw [IntKind.wrap_u8]; omega
  have b2 : IntKind.u8.wrap ((S : Int) / 65536) = (z2 : Int) := by rw [IntKind.wrap_u8]; omega
  have b3 : IntKind.u8.wrap ((S : Int) / 256) = (z3 : Int) := by rw [IntKind.wrap_u8]; omega
  have b4 : IntKind.u8.wrap (S : Int) = (z4 : Int) := by rw [IntKind.wrap_u8]; omega
  have HH : Hid (([.int .u8 (z1 : Int), .int .u8 (z2 : Int), .int .u8 (z3 : Int), .int .u8 (z4 : Int)] : List Value) = (sum4 ys).map byV) := Lib.hid (by
    rw [HZ.out]
    simp only [List.map_cons, List.map_nil, byV_mod]
    rw [hz1, hz2, hz3, hz4])
  have HM7 := Lib.hid (HM6.out.alloc (.cells #[.int .u8 (z1 : Int), .int .u8 (z2 : Int), .int .u8 (z3 : Int), .int .u8 (z4 : Int)] 5))
  have HIN := Lib.hid (in_bytes w7 #[.int .u8 (z1 : Int), .int .u8 (z2 : Int), .int .u8 (z3 : Int), .int .u8 (z4 : Int)] (sum4 ys) HH.out)
  have HLN : Hid (ys.length + (sum4 ys).length ≤ 1000000) := Lib.hid (by have := HYL.out; simp [sum4]; omega)
  clear hz1 hz2 hz3 hz4 hsl HZ HH HM6
  go_wp2_with (at_builtin; refine wpList_append_m bLen bOne _ rfl _ _ _ rfl 5 iB _ 1 Tryz.underlying22 hiB hzB hsB hbB rfl (by decide) (by omega) (.slice b7 ly c7) ys (sum4 ys) rfl HM7.out.tx (some ⟨w7.heap.size, 0, none⟩) 4 4 rfl rfl HIN.out HLN.out ?_; intro v8 w8 o8 f8 h8)
  have HM8 := Lib.hid (HM7.out.more o8 f8 h8)
  rw [← HY.out] at HM8
  clear o8 f8 h8 HM7 HIN HLN
  go_wp2_with fail
  go_ret2
  exact ⟨_, rfl, HM8.out⟩
end Tr
end Go.Proofs.YtkofcegdoilaeaaGreatDoor
namespace Go.Proofs.YtkofcegdoilaeaaGreatDoor
open Go.RowKit Go.MapKept Go.Maps
set_option linter.unusedVariables false
set_option linter.unusedSimpArgs false
namespace Tr
open Es Tl Rk
/-- bytes that begin with a frame (th), or are a beginning of one -/
structure Front (R p : Bs) (th : Bool) : Prop where
  pl : p.length ≤ 200
  len : R.length ≤ 100000
  yes : th = true → ∃ more, R = frB p ++ more
  no : th = false → ∃ t, t < p.length + 10 ∧ R = (frB p).take t
theorem frB_take6 (p : Bs) : (frB p).take 6 = hdr p.length := by
  unfold frB
  rw [List.append_assoc]
  exact List.take_left' (by simp [hdr])
theorem Front.head {R p : Bs} {th : Bool} (h : Front R p th) : R.take 6 = (hdr p.length).take R.length := by
  cases th with
  | true =>
    obtain ⟨more, rfl⟩ := h.yes rfl
    have e : (hdr p.length).length = 6 := rfl
    rw [List.take_append_of_le_length (by rw [fr_len]; omega), frB_take6, List.take_of_length_le (by rw [List.length_append, fr_len, e]; omega)]
  | false =>
    obtain ⟨t, ht, rfl⟩ := h.no rfl
    rw [List.take_take, Nat.min_comm, ← List.take_take, frB_take6, List.length_take, fr_len, Nat.min_eq_left (by omega)]
theorem Front.at {R p : Bs} {th : Bool} (h : Front R p th) {i : Nat} {c : UInt8} (hi : i < 6) (hc : R[i]? = some c) : (hdr p.length)[i]? = some c := by
  have h1 : (R.take 6)[i]? = some c := by rw [List.getElem?_take, if_pos hi]; exact hc
  rw [h.head, List.getElem?_take] at h1
  split at h1
  · exact h1
  · cases h1
theorem Front.three {R p : Bs} {th : Bool} (h : Front R p th) (h3 : 3 ≤ R.length) : ∃ rest, R = 0 :: 0 :: UInt8.ofNat p.length :: rest := by
  match R, h3, h with
  | a :: b :: c :: rest, _, h =>
    have h0 := h.at (i := 0) (by decide) rfl
    have h1 := h.at (i := 1) (by decide) rfl
    have h2 := h.at (i := 2) (by decide) rfl
    simp only [hdr, List.getElem?_cons_zero, List.getElem?_cons_succ, Option.some.injEq] at h0 h1 h2
    subst h0 h1 h2
    exact ⟨rest, rfl⟩
theorem Front.long {R p : Bs} {th : Bool} (h : Front R p th) : th = true ↔ p.length + 10 ≤ R.length := by
  cases th with
  | true =>
    obtain ⟨more, rfl⟩ := h.yes rfl
    rw [List.length_append, fr_len]
    exact ⟨fun _ => by omega, fun _ => rfl⟩
  | false =>
    obtain ⟨t, ht, rfl⟩ := h.no rfl
    rw [List.length_take, fr_len]
    exact ⟨fun e => (by cases e), fun e => (by omega)⟩
/-- the captured bytes -/
structure Cap (w : World) (bv : Nat) (b : Option Addr) (n cap : Nat) (R : Bs) : Prop where
  bk : Bk w bv [.slice b n cap] 22
  inb : BIn w b R
  len : n = R.length
  cap : n ≤ cap
theorem Cap.bel {w w' : World} {bv : Nat} {b : Option Addr} {n cap : Nat} {R : Bs} (h : Cap w bv b n cap R) (hb : Below w.heap.size w w') : Cap w' bv b n cap R := ⟨h.bk.bel hb, h.inb.bel hb, h.len, h.cap⟩
theorem Cap.drewN {w : World} {bv : Nat} {b : Option Addr} {n cap : Nat} {R : Bs} (h : Cap w bv b n cap R) (m : Nat) : Cap (w.drewN m) bv b n cap R := h.bel (bdrewN (Below.refl _ _) m)
set_option maxRecDepth 100000 in
set_option maxHeartbeats 2000000 in
theorem unlike_any {w : World} {bv : Nat} {b : Option Addr} {n cap : Nat} {R p : Bs} {th : Bool} (h : Cap w bv b n cap R) (hf : Front R p th) :
    Calls Tryz.prog 74 #[.pointer (some ⟨bv, 0, none⟩)] w fun e w' => e = .returned (.bool false) ∧ ∃ m, w' = w.drewN m := by
  have HF := Lib.hid (fun m => h.drewN m)
  have hU : ∀ k : Nat, 3 ≤ k → k < 6 → k < n → ∃ (B off x : Nat), b = some ⟨B, off, none⟩ ∧ x ≤ 255 ∧ w.cell? ⟨B, off + k, none⟩ = some (.int .u8 ((255 - x : Nat) : Int)) ∧ w.cell? ⟨B, off + (k - 3), none⟩ = some (.int .u8 (x : Int)) := fun k h3 h6 hk => by
    obtain ⟨c, hc⟩ : ∃ c, R[k]? = some c := ⟨R[k]'(by have := h.len; omega), List.getElem?_eq_getElem _⟩
    obtain ⟨d, hd⟩ : ∃ d, R[k - 3]? = some d := ⟨R[k - 3]'(by have := h.len; omega), List.getElem?_eq_getElem _⟩
    obtain ⟨B, off, rfl, hB, e1⟩ := h.inb.at hc
    obtain ⟨B', off', e, _, e2⟩ := h.inb.at hd
    cases e
    have g1 := hf.at h6 hc
    have g2 := hf.at (by omega) hd
    have hpl := hf.pl
    have hx : c.toNat = 255 - d.toNat := by
      rcases (by omega : k = 3 ∨ k = 4 ∨ k = 5) with rfl | rfl | rfl
      · simp only [hdr, Nat.reduceSub, List.getElem?_cons_zero, List.getElem?_cons_succ, Option.some.injEq] at g1 g2
        subst g1 g2; rfl
      · simp only [hdr, Nat.reduceSub, List.getElem?_cons_zero, List.getElem?_cons_succ, Option.some.injEq] at g1 g2
        subst g1 g2; rfl
      · simp only [hdr, Nat.reduceSub, List.getElem?_cons_zero, List.getElem?_cons_succ, Option.some.injEq] at g1 g2
        subst g1 g2
        rw [UInt8.toNat_ofNat', UInt8.toNat_ofNat', Nat.mod_eq_of_lt (by omega), Nat.mod_eq_of_lt (by omega)]
    exact ⟨B, off, d.toNat, rfl, by have := d.toNat_lt; omega, by rw [← hx]; exact e1, e2⟩
  have HU := Lib.hid hU
  have hn : n ≤ 100000 := by rw [h.len]; exact hf.len
  clear h hf hU
  go_enter Tryz.func74, Tryz.ntmps74
  go_wp2_with fail
  go_loopw [2] (fun c wr => ∃ k : Nat, 3 ≤ k ∧ k ≤ 6 ∧ c = .int .i64 k ∧ ∃ m, wr = w.drewN m) (fun c _ => 6 - (intOf c).toNat)
  case atStart => exact ⟨3, by omega, by omega, rfl, 0, rfl⟩
  case round =>
    obtain ⟨k, hk3, hk6, rfl, m, rfl⟩ := hrel
    have c0 : w.cell? ⟨bv, 0, none⟩ = some (.slice b n cap) := (HF.out 0).bk.cell 0
    by_cases h6 : k < 6
    · by_cases hkn : k < n
      · obtain ⟨B, off, x, rfl, hx, q1, q2⟩ := HU.out k hk3 h6 hkn
        obtain ⟨k3, hk3'⟩ : ∃ k3, k - 3 = k3 := ⟨_, rfl⟩
        obtain ⟨y, hy⟩ : ∃ y, 255 - x = y := ⟨_, rfl⟩
        rw [hk3'] at q2
        rw [hy] at q1
        have r1 : IntKind.i64.wrap ((k : Int) - 3) = (k3 : Int) := (IntWalk.i64_in _ (by omega)).trans (by omega)
        have r2 : IntKind.u8.wrap (255 - (x : Int)) = (y : Int) := by rw [IntKind.wrap_u8]; omega
        have i1 : (k : Int) < 6 := by omega
        have i2 : (k : Int) < (n : Int) := by omega
        have i3 : (k3 : Int) < (n : Int) := by omega
        have i4 : (0 : Int) ≤ (k : Int) := by omega
        have i5 : (0 : Int) ≤ (k3 : Int) := by omega
        have r3 : IntKind.i64.wrap ((k : Int) + 1) = (k : Int) + 1 := IntWalk.i64_in _ (by omega)
        clear hy hk3'
        go_wp2_with fail
        go_quiet (fail)
        go_wp2_with fail
        go_roundw
        case rel => exact ⟨k + 1, by omega, by omega, by go_num, m + nq, rfl⟩
        case measure => simp [intOf]; omega
      · have i1 : (k : Int) < 6 := by omega
        have i2 : ¬ (k : Int) < (n : Int) := by omega
        go_wp2_with fail
        go_ret
        exact ⟨rfl, m, rfl⟩
    · have i1 : ¬ (k : Int) < 6 := by omega
      go_wp2_with fail
      go_ret
      exact ⟨rfl, m, rfl⟩
set_option maxRecDepth 100000 in
set_option maxHeartbeats 2000000 in
theorem long_any {w : World} {bv : Nat} {b : Option Addr} {n cap : Nat} {R p : Bs} {th : Bool} (h : Cap w bv b n cap R) (hf : Front R p th) :
    Calls Tryz.prog 75 #[.pointer (some ⟨bv, 0, none⟩)] w fun e w' => e = .returned (.bool false) ∧ ∃ m, w' = w.drewN m := by
  have c0 : w.cell? ⟨bv, 0, none⟩ = some (.slice b n cap) := h.bk.cell 0
  have hpl := hf.pl
  by_cases h3 : 3 ≤ n
  · obtain ⟨rest, hR⟩ := hf.three (by rw [← h.len]; exact h3)
    have hs := size_any b cap R rest _ w h.inb hR n h.len
    rw [UInt8.toNat_ofNat', Nat.mod_eq_of_lt (by omega)] at hs
    have HS := Lib.hid hs
    have i1 : (3 : Int) ≤ (n : Int) := by omega
    generalize p.length = z at hpl HS
    have i2 : ¬ (65536 : Int) < (z : Int) := by omega
    clear h hf hR hs h3
    go_enter Tryz.func75, Tryz.ntmps75
    go_wp2_with fail
    refine HS.out.mono ?_
    rintro e w1 ⟨rfl, m, rfl⟩
    go_wp2_with fail
    go_ret
    exact ⟨ret_bool (decide_eq_false (by omega)), m, rfl⟩
  · have i1 : ¬ (3 : Int) ≤ (n : Int) := by omega
    clear h hf
    go_enter Tryz.func75, Tryz.ntmps75
    go_wp2_with fail
    go_ret
    exact ⟨rfl, 0, rfl⟩
set_option maxRecDepth 100000 in
set_option maxHeartbeats 2000000 in
theorem there_any {w : World} {bv : Nat} {b : Option Addr} {n cap : Nat} {R p : Bs} {th : Bool} (h : Cap w bv b n cap R) (hf : Front R p th) :
    Calls Tryz.prog 77 #[.pointer (some ⟨bv, 0, none⟩)] w fun e w' => e = .returned (.bool th) ∧ ∃ m, w' = w.drewN m := by
  have c0 : w.cell? ⟨bv, 0, none⟩ = some (.slice b n cap) := h.bk.cell 0
  have hpl := hf.pl
  have hth := hf.long
  rw [← h.len] at hth
  have hn : n ≤ 100000 := by rw [h.len]; exact hf.len
  by_cases h6 : 6 ≤ n
  · obtain ⟨rest, hR⟩ := hf.three (by rw [← h.len]; omega)
    have hs := fun m => size_any b cap R rest _ (w.drewN m) (h.drewN m).inb hR n h.len
    rw [UInt8.toNat_ofNat', Nat.mod_eq_of_lt (by omega)] at hs
    have HS := Lib.hid hs
    have i1 : (6 : Int) ≤ (n : Int) := by omega
    have r1 : IntKind.i64.wrap ((n : Int) - 6) = (n : Int) - 6 := IntWalk.i64_in _ (by omega)
    have r2 : IntKind.i64.wrap ((n : Int) - 6 - 4) = (n : Int) - 6 - 4 := IntWalk.i64_in _ (by omega)
    generalize p.length = z at hpl HS hth
    have i2 : decide ((z : Int) ≤ (n : Int) - 6 - 4) = th := by
      cases th with
      | true => exact decide_eq_true (by have := hth.1 rfl; omega)
      | false => exact decide_eq_false (fun c => by have := hth.2 (by omega); cases this)
    clear h hf hR hs h6 hth
    go_enter Tryz.func77, Tryz.ntmps77
    go_wp2_with fail
    go_quiet ((go_at_call 76; exact Calls.quiet_of (HS.out _)))
    go_wp2_with fail
    go_ret
    exact ⟨by first | rfl | exact ret_bool i2, _, rfl⟩
  · have i1 : ¬ (6 : Int) ≤ (n : Int) := by omega
    have e : th = false := by
      cases th with
      | true => have := hth.1 rfl; omega
      | false => rfl
    subst e
    clear h hf hth h6
    go_enter Tryz.func77, Tryz.ntmps77
    go_wp2_with fail
    have i3 : decide ((6 : Int) ≤ (n : Int)) = false := decide_eq_false (by omega)
    have i4 : decide (6 ≤ n) = false := decide_eq_false (by omega)
    have i5 : n < 6 := by omega
    go_quiet (fail)
    go_wp2_with fail
    go_ret
    exact ⟨rfl, _, rfl⟩
end Tr
end Go.Proofs.YtkofcegdoilaeaaGreatDoor
namespace Go.Proofs.YtkofcegdoilaeaaGreatDoor
open Go.RowKit Go.MapKept Go.Maps
set_option linter.unusedVariables false
set_option linter.unusedSimpArgs false
namespace Tr
open Es Tl Rk
theorem bytes_in {w : World} {b : Option Addr} {xs : Bs} (h : BIn w b xs) : Lib.BytesIn w b xs.length (xs.map fun c => (c.toNat : Int)) := fun hn => by
  obtain ⟨B, off, hb, hB, _⟩ := h.at (List.getElem?_eq_getElem hn)
  refine ⟨B, off, hb, fun i hi => ?_⟩
  obtain ⟨B', off', e, _, hc⟩ := h.at (List.getElem?_eq_getElem hi)
  rw [hb] at e
  cases e
  rw [hc, List.getD_eq_getElem?_getD, List.getElem?_map, List.getElem?_eq_getElem hi]
  rfl
/-- where the frame's parts lie -/
structure Whole (R p : Bs) (N : Nat) : Prop where
  n : N = 6 + p.length
  long : N + 4 ≤ R.length
  front : R.take N = hdr p.length ++ p
  pay : (R.drop 6).take p.length = p
  tail : (R.drop N).take 4 = sum4 (hdr p.length ++ p)
theorem Front.whole {R p : Bs} (h : Front R p true) : Whole R p (6 + p.length) := by
  obtain ⟨more, rfl⟩ := h.yes rfl
  have e6 : (hdr p.length).length = 6 := rfl
  have e4 : ∀ ys, (sum4 ys).length = 4 := fun ys => rfl
  refine ⟨rfl, by rw [List.length_append, fr_len]; omega, ?_, ?_, ?_⟩
  · unfold frB
    rw [List.append_assoc]
    exact List.take_left' (by rw [List.length_append, e6])
  · unfold frB
    rw [List.append_assoc, List.append_assoc, List.drop_left' e6]
    exact List.take_left
  · unfold frB
    rw [List.append_assoc, List.drop_left' (by rw [List.length_append, e6])]
    exact List.take_left' (e4 _)
theorem BIn.part {w : World} {b : Option Addr} {R : Bs} {cap : Nat} (h : BIn w b R) (hc : R.length ≤ cap) (lo k : Nat) : BIn w (subB b cap lo 1) ((R.drop lo).take k) := by
  have h1 := (subB_inw (k := lo) h (by rw [List.length_map]; exact hc)).take k
  rwa [← List.map_drop, ← List.map_take] at h1
theorem BIn.front {w : World} {b : Option Addr} {R : Bs} (h : BIn w b R) (k : Nat) : BIn w b (R.take k) := by
  have h1 := InW.take h k
  rwa [← List.map_take] at h1
set_option maxRecDepth 100000 in
set_option maxHeartbeats 4000000 in
theorem wrong_any {w : World} {bv tv : Nat} {b : Option Addr} {n cap : Nat} {R p : Bs} {th : Bool} (h : Cap w bv b n cap R) (ht : Bk w tv [.func (Fn.func 77) #[] #[.pointer (some ⟨bv, 0, none⟩)]] 35) (hf : Front R p th) :
    Calls Tryz.prog 78 #[.pointer (some ⟨tv, 0, none⟩), .pointer (some ⟨bv, 0, none⟩)] w fun e w' => e = .returned (.bool false) ∧ Below w.heap.size w w' := by
  have t0 : w.cell? ⟨tv, 0, none⟩ = some (.func (Fn.func 77) #[] #[.pointer (some ⟨bv, 0, none⟩)]) := ht.cell 0
  have HT := Lib.hid (there_any h hf)
  have HC := Lib.hid h
  cases th with
  | false =>
    clear h ht hf
    go_enter Tryz.func78, Tryz.ntmps78
    go_wp2_with fail
    refine HT.out.mono ?_
    rintro e w1 ⟨rfl, m, rfl⟩
    go_wp2_with fail
    go_ret
    exact ⟨rfl, bdrewN (Below.refl _ _) _⟩
  | true =>
    have hw := hf.whole
    have hpl := hf.pl
    obtain ⟨rest, hR⟩ := hf.three (by have := hw.long; omega)
    have HW := Lib.hid hw
    have HR := Lib.hid hR
    have hnl : 6 + p.length + 4 ≤ n := by rw [h.len]; exact hw.long
    have hnc := h.cap
    obtain ⟨N, hN⟩ : ∃ N, 6 + p.length = N := ⟨_, rfl⟩
    obtain ⟨z, hz⟩ : ∃ z, p.length = z := ⟨_, rfl⟩
    obtain ⟨N4, hN4⟩ : ∃ N4, N + 4 = N4 := ⟨_, rfl⟩
    have r1 : IntKind.i64.wrap (6 + (z : Int)) = (N : Int) := (IntWalk.i64_in _ (by omega)).trans (by omega)
    have r2 : IntKind.i64.wrap ((N : Int) + 4) = (N4 : Int) := (IntWalk.i64_in _ (by omega)).trans (by omega)
    have HN : Hid (p.length = z ∧ 6 + p.length = N ∧ N ≤ N4 ∧ N4 ≤ cap ∧ N4 - N = 4 ∧ N ≤ cap ∧ R.length ≤ cap ∧ N ≤ R.length ∧ N4 ≤ R.length) := Lib.hid (by have := h.len; exact ⟨hz, hN, by omega, by omega, by omega, by omega, by omega, by omega, by omega⟩)
    rw [hN] at HW
    clear h ht hf hw hR hN hz hN4 hnl
    go_enter Tryz.func78, Tryz.ntmps78
    go_wp2_with fail
    refine HT.out.mono ?_
    rintro e w1 ⟨rfl, m, hm⟩
    have HC1 : Hid (Cap w1 bv b n cap R ∧ Below w.heap.size w w1) := Lib.hid (by rw [hm]; exact ⟨HC.out.drewN m, bdrewN (Below.refl _ _) _⟩)
    have c1 : w1.cell? ⟨bv, 0, none⟩ = some (.slice b n cap) := HC1.out.1.bk.cell 0
    have hs := size_any b cap R rest _ w1 HC1.out.1.inb HR.out n HC1.out.1.len
    rw [HN.out.1, UInt8.toNat_ofNat', Nat.mod_eq_of_lt (by have := HN.out.1; omega)] at hs
    clear hm t0 HT
    go_wp2_with fail
    refine hs.mono ?_
    rintro e w2 ⟨rfl, m, hm⟩
    have HC2 : Hid (Cap w2 bv b n cap R ∧ Below w.heap.size w w2) := Lib.hid (by rw [hm]; exact ⟨HC1.out.1.drewN m, bdrewN HC1.out.2 _⟩)
    clear hm HC1 c1 hs
    have c1 : w2.cell? ⟨bv, 0, none⟩ = some (.slice b n cap) := HC2.out.1.bk.cell 0
    have e1 : (Instr.slice 22 (.slice b n cap) none (some (.int .i64 N)) none).run Tryz.prog w2 = .ok (.slice b N cap) w2 := run_slice_to w2 22 5 b n cap N 1 Tryz.underlying22 info1 HN.out.2.2.2.2.2.1
    have e2 : (Instr.slice 22 (.slice b n cap) (some (.int .i64 N)) (some (.int .i64 N4)) none).run Tryz.prog w2 = .ok (.slice (subB b cap N 1) 4 (cap - N)) w2 := by
      have := run_slice_mid (P := Tryz.prog) w2 22 5 b n cap N N4 1 Tryz.underlying22 info1 HN.out.2.2.1 HN.out.2.2.2.1
      rwa [HN.out.2.2.2.2.1] at this
    have hsum := sum_any b cap (R.take N) w2 (HC2.out.1.inb.front N) (by rw [List.length_take]; have := HN.out; omega)
    rw [List.length_take, Nat.min_eq_left HN.out.2.2.2.2.2.2.2.1, HW.out.front] at hsum
    have hsl := sumN_lt (hdr p.length ++ p)
    have HZ : Hid (sum4 (hdr p.length ++ p) = [UInt8.ofNat (sumN (hdr p.length ++ p) / 16777216), UInt8.ofNat (sumN (hdr p.length ++ p) / 65536), UInt8.ofNat (sumN (hdr p.length ++ p) / 256), UInt8.ofNat (sumN (hdr p.length ++ p))]) := Lib.hid rfl
    have HTL := Lib.hid HW.out.tail
    generalize sum4 (hdr p.length ++ p) = ys at HZ HTL
    generalize sumN (hdr p.length ++ p) = S at hsl HZ hsum
    have HS := Lib.hid hsum
    clear hsum
    go_wp2_with fail
    refine HS.out.mono ?_
    rintro e w3 ⟨rfl, rfl⟩
    obtain ⟨z1, hz1⟩ : ∃ z, S / 16777216 % 256 = z := ⟨_, rfl⟩
    obtain ⟨z2, hz2⟩ : ∃ z, S / 65536 % 256 = z := ⟨_, rfl⟩
    obtain ⟨z3, hz3⟩ : ∃ z, S / 256 % 256 = z := ⟨_, rfl⟩
    obtain ⟨z4, hz4⟩ : ∃ z, S % 256 = z := ⟨_, rfl⟩
    have b1 : IntKind.u8.wrap ((S : Int) / 16777216) = (z1 : Int) := by rw [IntKind.wrap_u8]; omega
    have b2 : IntKind.u8.wrap ((S : Int) / 65536) = (z2 : Int) := by rw [IntKind.wrap_u8]; omega
    have b3 : IntKind.u8.wrap ((S : Int) / 256) = (z3 : Int) := by rw [IntKind.wrap_u8]; omega
    have b4 : IntKind.u8.wrap (S : Int) = (z4 : Int) := by rw [IntKind.wrap_u8]; omega
    have HH : Hid (([.int .u8 (z1 : Int), .int .u8 (z2 : Int), .int .u8 (z3 : Int), .int .u8 (z4 : Int)] : List Value) = ys.map byV) := Lib.hid (by
      rw [HZ.out]
      simp only [List.map_cons, List.map_nil, byV_mod]
      rw [hz1, hz2, hz3, hz4])
    have HIN := Lib.hid (in_bytes w3 #[.int .u8 (z1 : Int), .int .u8 (z2 : Int), .int .u8 (z3 : Int), .int .u8 (z4 : Int)] ys HH.out)
    have HB3 := Lib.hid ((Below.refl w3.heap.size w3).alloc (Nat.le_refl _) (.cells #[.int .u8 (z1 : Int), .int .u8 (z2 : Int), .int .u8 (z3 : Int), .int .u8 (z4 : Int)] 5))
    have HYL : Hid (ys.length = 4) := Lib.hid (by rw [HZ.out]; rfl)
    have heq := Tryz.bytes_Equal_all (subB b cap N 1) (some ⟨w3.heap.size, 0, none⟩) 4 (cap - N) 4 4 (ys.map fun c => (c.toNat : Int)) (ys.map fun c => (c.toNat : Int)) (w3.alloc (.cells #[.int .u8 (z1 : Int), .int .u8 (z2 : Int), .int .u8 (z3 : Int), .int .u8 (z4 : Int)] 5)) (by rw [List.length_map, HYL.out]) (by rw [List.length_map, HYL.out])
      (by
        have := bytes_in ((HC2.out.1.inb.part HN.out.2.2.2.2.2.2.1 N 4).bel HB3.out)
        rw [HTL.out, HYL.out] at this
        exact this)
      (by have := bytes_in HIN.out; rw [HYL.out] at this; exact this)
    rw [beq_self_eq_true] at heq
    have HEQ := Lib.hid heq
    clear heq hz1 hz2 hz3 hz4 hsl HZ HH HIN HTL HS
    go_wp2_with fail
    refine HEQ.out.mono ?_
    rintro e w4 ⟨rfl, rfl⟩
    go_wp2_with fail
    go_ret
    exact ⟨rfl, HC2.out.2.trans (HB3.out.mono HC2.out.2.size)⟩
end Tr
end Go.Proofs.YtkofcegdoilaeaaGreatDoor
namespace Go.Proofs.YtkofcegdoilaeaaGreatDoor
open Go.RowKit Go.MapKept Go.Maps
set_option linter.unusedVariables false
set_option linter.unusedSimpArgs false
namespace Tr
open Es Tl Rk
def OpenPost (w : World) (p : Bs) (th : Bool) (e : Ending) (w' : World) : Prop := (th = true ∧ ∃ v, e = .returned (.tuple #[v, .int .i64 ((p.length + 10 : Nat) : Int), .int .i64 0]) ∧ MkB w w' v p) ∨ (th = false ∧ e = .returned (.tuple #[.slice none 0 0, .int .i64 0, .int .i64 1]) ∧ Below w.heap.size w w')
set_option maxRecDepth 100000 in
set_option maxHeartbeats 4000000 in
theorem open_any {w : World} {b : Option Addr} {n cap : Nat} {R p : Bs} {th : Bool} (hX : BIn w b R) (hn : n = R.length) (hc : n ≤ cap) (hf : Front R p th) :
    Calls Tryz.prog 59 #[.slice b n cap] w (OpenPost w p th) := by
  obtain ⟨iB, hiB, hzB, hsB, hbB⟩ := tinfo infoByte
  have HF := Lib.hid hf
  have k0 := Bk.new w [.slice b n cap] 22
  have b0 : Below w.heap.size w (w.alloc (.cells #[.slice b n cap] 22)) := (Below.refl _ _).alloc (Nat.le_refl _) _
  have k2 : Bk ((w.alloc (.cells #[.slice b n cap] 22)).alloc (.cells #[(.func (Fn.func 77) #[] #[.pointer (some ⟨w.heap.size, 0, none⟩)])] 35)) (w.heap.size + 1) [(.func (Fn.func 77) #[] #[.pointer (some ⟨w.heap.size, 0, none⟩)])] 35 := bk_at [(.func (Fn.func 77) #[] #[.pointer (some ⟨w.heap.size, 0, none⟩)])] 35 (by simp)
  have k3 : Bk ((w.alloc (.cells #[.slice b n cap] 22)).alloc (.cells #[(.func (Fn.func 77) #[] #[.pointer (some ⟨w.heap.size, 0, none⟩)])] 35)) w.heap.size [.slice b n cap] 22 := k0.old _
  have b3 : Below w.heap.size w ((w.alloc (.cells #[.slice b n cap] 22)).alloc (.cells #[(.func (Fn.func 77) #[] #[.pointer (some ⟨w.heap.size, 0, none⟩)])] 35)) := b0.alloc (by simp) _
  have HC : Hid (Cap _ w.heap.size b n cap R) := Lib.hid ⟨k3, hX.bel b3, hn, hc⟩
  have HT := Lib.hid k2
  have HB := Lib.hid b3
  clear hX hn hc hf k0 b0 k2 k3 b3
  have HI : Hid (∀ (f0 f1 f2 : Nat) (c0 c1 c2 : Array Value) W, (Instr.index 142 (.agg #[.func (Fn.func f0) #[] c0, .func (Fn.func f1) #[] c1, .func (Fn.func f2) #[] c2]) (.int .i64 0)).run Tryz.prog W = .ok (.func (Fn.func f0) #[] c0) W ∧ (Instr.index 142 (.agg #[.func (Fn.func f0) #[] c0, .func (Fn.func f1) #[] c1, .func (Fn.func f2) #[] c2]) (.int .i64 1)).run Tryz.prog W = .ok (.func (Fn.func f1) #[] c1) W ∧ (Instr.index 142 (.agg #[.func (Fn.func f0) #[] c0, .func (Fn.func f1) #[] c1, .func (Fn.func f2) #[] c2]) (.int .i64 2)).run Tryz.prog W = .ok (.func (Fn.func f2) #[] c2) W) := Lib.hid (fun f0 f1 f2 c0 c1 c2 W => ⟨by kernel_rfl, by kernel_rfl, by kernel_rfl⟩)
  go_enter Tryz.func59, Tryz.ntmps59
  go_upto_region 4 with fail
  generalize (w.alloc (.cells #[.slice b n cap] 22)).alloc (.cells #[(.func (Fn.func 77) #[] #[.pointer (some ⟨w.heap.size, 0, none⟩)])] 35) = V at HC HT HB ⊢
  go_wp2_with fail
  go_loopw [20] (fun c wr => ∃ k : Nat, k ≤ 3 ∧ c = .int .i64 k ∧ Hid (Below V.heap.size V wr)) (fun c _ => 3 - (intOf c).toNat)
  case atStart => exact ⟨0, by omega, rfl, Lib.hid (Below.refl _ _)⟩
  case round =>
    obtain ⟨k, hk, rfl, HL⟩ := hrel
    have HC1 := Lib.hid (HC.out.bel HL.out)
    have HT1 := Lib.hid (HT.out.bel HL.out)
    rcases (by omega : k = 0 ∨ k = 1 ∨ k = 2 ∨ k = 3) with rfl | rfl | rfl | rfl
    · have hi := (HI.out 74 75 78 #[.pointer (some ⟨w.heap.size, 0, none⟩)] #[.pointer (some ⟨w.heap.size, 0, none⟩)] #[.pointer (some ⟨w.heap.size + 1, 0, none⟩), .pointer (some ⟨w.heap.size, 0, none⟩)] wr).1
      go_wp2_with fail
      refine (unlike_any HC1.out HF.out).mono ?_
      rintro e w1 ⟨rfl, m, hm⟩
      have HL1 : Hid (Below V.heap.size V w1) := Lib.hid (by rw [hm]; exact bdrewN HL.out _)
      clear hm
      go_wp2_with fail
      go_roundw
      case rel => exact ⟨1, by omega, by go_num, HL1⟩
      case measure => simp [intOf]
    · have hi := (HI.out 74 75 78 #[.pointer (some ⟨w.heap.size, 0, none⟩)] #[.pointer (some ⟨w.heap.size, 0, none⟩)] #[.pointer (some ⟨w.heap.size + 1, 0, none⟩), .pointer (some ⟨w.heap.size, 0, none⟩)] wr).2.1
      go_wp2_with fail
      refine (long_any HC1.out HF.out).mono ?_
      rintro e w1 ⟨rfl, m, hm⟩
      have HL1 : Hid (Below V.heap.size V w1) := Lib.hid (by rw [hm]; exact bdrewN HL.out _)
      clear hm
      go_wp2_with fail
      go_roundw
      case rel => exact ⟨2, by omega, by go_num, HL1⟩
      case measure => simp [intOf]
    · have hi := (HI.out 74 75 78 #[.pointer (some ⟨w.heap.size, 0, none⟩)] #[.pointer (some ⟨w.heap.size, 0, none⟩)] #[.pointer (some ⟨w.heap.size + 1, 0, none⟩), .pointer (some ⟨w.heap.size, 0, none⟩)] wr).2.2
      go_wp2_with fail
      refine (wrong_any HC1.out HT1.out HF.out).mono ?_
      rintro e w1 ⟨rfl, hb1⟩
      have HL1 : Hid (Below V.heap.size V w1) := Lib.hid (HL.out.trans (hb1.mono HL.out.size))
      clear hb1
      go_wp2_with fail
      go_roundw
      case rel => exact ⟨3, by omega, by go_num, HL1⟩
      case measure => simp [intOf]
    · have t0 : wr.cell? ⟨w.heap.size + 1, 0, none⟩ = some (.func (Fn.func 77) #[] #[.pointer (some ⟨w.heap.size, 0, none⟩)]) := HT1.out.cell 0
      go_wp2_with fail
      refine (there_any HC1.out HF.out).mono ?_
      rintro e w1 ⟨rfl, m, hm⟩
      have HC2 : Hid (Cap w1 w.heap.size b n cap R ∧ Below w.heap.size w w1) := Lib.hid (by rw [hm]; exact ⟨HC1.out.drewN m, bdrewN (HB.out.trans (HL.out.mono HB.out.size)) _⟩)
      clear hm t0 HC1 HT1 HL
      cases th with
      | false =>
        go_wp2_with fail
        go_ret3
        exact .inr ⟨rfl, rfl, HC2.out.2⟩
      | true =>
        have hf := HF.out
        have hw := hf.whole
        have hpl := hf.pl
        obtain ⟨rest, hR⟩ := hf.three (by have := hw.long; omega)
        have HW := Lib.hid hw
        have hnl : 6 + p.length + 4 ≤ n := by rw [HC2.out.1.len]; exact hw.long
        have hnc := HC2.out.1.cap
        have c1 : w1.cell? ⟨w.heap.size, 0, none⟩ = some (.slice b n cap) := HC2.out.1.bk.cell 0
        have hs := size_any b cap R rest _ w1 HC2.out.1.inb hR n HC2.out.1.len
        rw [UInt8.toNat_ofNat', Nat.mod_eq_of_lt (by omega)] at hs
        obtain ⟨N, hN⟩ : ∃ N, 6 + p.length = N := ⟨_, rfl⟩
        obtain ⟨z, hz⟩ : ∃ z, p.length = z := ⟨_, rfl⟩
        obtain ⟨N4, hN4⟩ : ∃ N4, N + 4 = N4 := ⟨_, rfl⟩
        have r1 : IntKind.i64.wrap (6 + (z : Int)) = (N : Int) := (IntWalk.i64_in _ (by omega)).trans (by omega)
        have hf := hf.len
        have r2 : IntKind.i64.wrap ((N : Int) + 4) = (N4 : Int) := (IntWalk.i64_in _ (by omega)).trans (by omega)
        have HN : Hid (p.length = z ∧ 6 ≤ N ∧ N ≤ cap ∧ N - 6 = z ∧ R.length ≤ cap ∧ p.length + 10 = N4 ∧ p.length ≤ 200) := Lib.hid (by have := HC2.out.1.len; exact ⟨hz, by omega, by omega, by omega, by omega, by omega, hpl⟩)
        rw [hz] at hs
        have HS := Lib.hid hs
        clear hs hN hz hN4 hnl hw hf hpl hR
        go_wp2_with fail
        refine HS.out.mono ?_
        rintro e w2 ⟨rfl, m, hm⟩
        have HC3 : Hid (Cap w2 w.heap.size b n cap R ∧ Below w.heap.size w w2) := Lib.hid (by rw [hm]; exact ⟨HC2.out.1.drewN m, bdrewN HC2.out.2 _⟩)
        clear hm HC2 c1 HS
        have c1 : w2.cell? ⟨w.heap.size, 0, none⟩ = some (.slice b n cap) := HC3.out.1.bk.cell 0
        go_upto_region 14 with fail
        have hk := HC3.out.1.bk.old (.cells #[] 5)
        have c2 : (w2.alloc (.cells #[] 5)).cell? ⟨w.heap.size, 0, none⟩ = some (.slice b n cap) := hk.cell 0
        have e1 : (Instr.slice 22 (.slice b n cap) (some (.int .i64 6)) (some (.int .i64 N)) none).run Tryz.prog (w2.alloc (.cells #[] 5)) = .ok (.slice (subB b cap 6 1) z (cap - 6)) (w2.alloc (.cells #[] 5)) := by
          have := run_slice_mid (P := Tryz.prog) (w2.alloc (.cells #[] 5)) 22 5 b n cap 6 N 1 Tryz.underlying22 info1 HN.out.2.1 HN.out.2.2.1
          rw [HN.out.2.2.2.1] at this
          exact this
        have HM := Lib.hid (MkG.empty (t := 5) (sz := 1) (f := bC) w2)
        have HIN : Hid (InW (w2.alloc (.cells #[] 5)) (subB b cap 6 1) 1 (p.map bC)) := Lib.hid (by
          have h1 := (HC3.out.1.inb.part HN.out.2.2.2.2.1 6 p.length).bel ((Below.refl w2.heap.size w2).alloc (Nat.le_refl _) (.cells #[] 5))
          rw [HW.out.pay] at h1
          exact h1)
        have HZN : Hid (z = p.length) := Lib.hid HN.out.1.symm
        have HLN : Hid (([] : Bs).length + p.length ≤ 1000000) := Lib.hid (by have := HN.out.2.2.2.2.2.2; simp; omega)
        clear hk c1
        go_wp2_with (at_builtin; refine wpList_append_m bLen bOne _ rfl _ _ _ rfl 5 iB _ 1 Tryz.underlying22 hiB hzB hsB hbB rfl (by decide) (by omega) (.slice (some ⟨w2.heap.size, 0, none⟩) 0 0) [] p rfl HM.out.tx (subB b cap 6 1) z (cap - 6) rfl HZN.out HIN.out HLN.out ?_; intro v5 w5 o5 f5 h5)
        have HM5 := Lib.hid (HM.out.more o5 f5 h5)
        rw [List.nil_append] at HM5
        clear o5 f5 h5 HM HIN HLN
        go_wp2_with fail
        go_ret3
        exact .inl ⟨rfl, _, by rw [HN.out.2.2.2.2.2.1]; rfl, HM5.out.from HC3.out.2⟩
end Tr
end Go.Proofs.YtkofcegdoilaeaaGreatDoor

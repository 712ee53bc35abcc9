/- For any bytes, any number and any bytes to keep, ciceronetop.TopTorn returns true and leaves its arguments as they were (the card: the package variables that it lists are tied to the program's text). (Ahead of it: journal: Open. ciceronetop.logged. TopTorn: the walk. TopTorn at any bytes. The package's variables, out of the row's condition (TopTorn).) -/
import Derived.Test.YtkofcegdoilaeaaGreatDoorPk16
import Derived.Test.YtkofcegdoilaeaaGreatDoorPk15
import Derived.Test.YtkofcegdoilaeaaGreatDoorCards
import Derived.Test.YtkofcegdoilaeaaGreatDoorTie
import Derived.ProofKit
import Derived.OpenShut
import Derived.LaidMore
import Derived.Lay
import Derived.SevenTiedAt
import Derived.Stop.Joined
import Derived.Lib.LaidTab
import Derived.Shelf.Vars
import Derived.Lib.SmallJoins
import Derived.ChangeOld
import Derived.Below
namespace Go.Proofs.YtkofcegdoilaeaaGreatDoor
open Go.RowKit Go.MapKept Go.Maps
set_option linter.unusedVariables false
set_option linter.unusedSimpArgs false
namespace Tr
open Es Tl Rk
section
variable {w0 w w' : World} {d lb : Nat} {X : Dk} {files la : Nat} {es : List Ev} {us : List Ob}
/-- what is read of a file joins what is here -/
theorem jr_read (h : Jx w0 w d lb X files la es us) (n : ByteArray) (hn : n.size ≤ 1000) :
    Calls Tryz.prog 24 #[.pointer (some ⟨d, 0, none⟩), .string n] w fun e w' => ∃ b c, e = .returned (.tuple #[.slice b (readD X n).1.size c, .int .i64 (readD X n).2]) ∧ (readD X n).1.size ≤ c ∧ BIn w' b (readD X n).1.data.toList ∧ Jx w0 w' d lb X files la es (us ++ [.row (.slice b (readD X n).1.size c) 5 1 (readD X n).1.size (bV (readD X n).1)]) := by
  obtain ⟨v, h⟩ := h
  refine (h_read h (i := 0) rfl n hn).mono ?_
  rintro e w' ⟨u, rfl, k, k2⟩
  obtain ⟨b, c, rfl, h1, h2, h3, _⟩ := row_of_by k.tx
  exact ⟨b, c, rfl, h1, h3, v, h_row h k.bl k.tx k.nw⟩
/-- a file is given a part of bytes that are here -/
theorem jr_replace (h : Jx w0 w d lb X files la es us) (n s : ByteArray) (b : Option Addr) (cap : Nat) (hn : n.size ≤ 1000) (hs : ByIn w b s) {i q sz : Nat} {t : TypeId} {xs : List Value} {c : Nat} (hi : us[i]? = some (.row (.slice b q c) t sz q xs)) (hsz : s.size ≤ 5000000) (ln : Nat) (hln : ln = s.size) :
    Calls Tryz.prog 27 #[.pointer (some ⟨d, 0, none⟩), .string n, .slice b ln cap] w fun e w' => e = .returned (.int .i64 (stepR X n s).2) ∧ Jx w0 w' d lb (stepR X n s).1 files la es us := by
  subst hln
  obtain ⟨v, h⟩ := h
  obtain ⟨B, h1, _, h3, h4⟩ := h.use (i := 0) rfl
  obtain ⟨C, hC, hap⟩ := h4 (i + 3) (.row (.slice b q c) t sz q xs) (by omega) (by simpa using hi)
  obtain ⟨_, hC⟩ := hC
  refine (replace_at h1 n s b cap hn hs (fun k o hk hB => ?_) hsz).mono ?_
  · refine hap k hB ?_
    rw [hC, hk]
    simp [Value.ownBlock]
  · rintro e w' ⟨rfl, k⟩
    exact ⟨rfl, v, h_post h3 (Below.refl _ _) k⟩
theorem cat_len' : ∀ (ps : List Bs), (∀ p ∈ ps, p.length ≤ 200) → (cat ps).length ≤ 210 * ps.length
  | [], _ => by simp [cat]
  | p :: ps, h => by
    have h1 := cat_len' ps (fun q hq => h q (List.mem_cons_of_mem _ hq))
    have h2 := h p (by simp)
    rw [cat_cons, List.length_append, fr_len, List.length_cons]
    omega
/-- what load does (shown apart) -/
def LoadSpec : Prop := ∀ {w0 w : World} {d lb : Nat} {X : Dk} {files la : Nat} {es : List Ev} {us : List Ob} (h : Jx w0 w d lb X files la es us) (sg : List Ev) (hsg : sg.length ≤ 5) (hT : ∀ e ∈ sg, TaleEv e) (hG : Glob w0) (hl : es.length < 60) {b : Option Addr} {cap n t : Nat} (hX : BIn w b ((cat (sg.map encB)).take t)) (ht : t ≤ (cat (sg.map encB)).length) (hn : n = t) (hc : n ≤ cap) (last : Bool) (hlast : last = false → t = (cat (sg.map encB)).length ∧ sg.length = 5),
    Calls Tryz.prog 26 #[.pointer (some ⟨lb, 0, none⟩), .slice b n cap, .bool last] w fun r w' => ∃ (j : Nat) (st : Int), r = .returned (.tuple #[.int .i64 (off (sg.map encB) j : Nat), .int .i64 st, .int .i64 0]) ∧ Cut (sg.map encB) t j st ∧ Jx w0 w' d lb X files la (es ++ sg.take j) us
/-- the events of a segment -/
def segE (es : List Ev) (k : Nat) : List Ev := (es.drop (5 * k)).take 5
theorem segE_map (es : List Ev) (k : Nat) : (segE es k).map encB = seg (es.map encB) k := by unfold segE seg; rw [List.map_take, List.map_drop]
theorem segE_len (es : List Ev) (k : Nat) : (segE es k).length = min 5 (es.length - 5 * k) := by simp [segE]
theorem segE_take (es : List Ev) (k j : Nat) (hj : j ≤ 5) : es.take (5 * k) ++ (segE es k).take j = es.take (5 * k + j) := by
  unfold segE
  rw [List.take_take, Nat.min_eq_left hj, List.take_add]
theorem segE_mem {es : List Ev} {k : Nat} {e : Ev} (h : e ∈ segE es k) : e ∈ es := List.mem_of_mem_drop (List.mem_of_mem_take h)
/-- k segments are read -/
def OpAt (w0 wr : World) (d lb : Nat) (X : Dk) (es : List Ev) (m t k : Nat) : Prop :=
  (k < m ∧ Jx w0 wr d lb X m 0 (es.take (5 * k)) []) ∨ (k = m ∧ ∃ X' K, K ≤ es.length ∧ (∀ la, Low (es.map encB) m t la → la ≤ K) ∧ (m = 0 → X' = X ∧ K = 0) ∧ Jx w0 wr d lb X' m 0 (es.take K) [])
theorem OpAt.fin {w0 wr : World} {d lb : Nat} {X X' : Dk} {es : List Ev} {m t k j : Nat} {st : Int} (hk : k + 1 = m) (hl : 5 * m ≤ es.length + 4) (hc : Cut (seg (es.map encB) k) t j st) (h : Jx w0 wr d lb X' m 0 (es.take (5 * k) ++ (segE es k).take j) []) : OpAt w0 wr d lb X es m t (k + 1) := by
  have hj := hc.le
  rw [seg_len, List.length_map] at hj
  refine .inr ⟨hk, X', 5 * k + j, by omega, fun la hla => hla.2 k j st hk hc, fun c => by omega, ?_⟩
  rw [← segE_take es k j (by omega)]
  exact h
set_option maxRecDepth 100000 in
set_option maxHeartbeats 8000000 in
theorem jopen_of (HLD : LoadSpec) {w0 w : World} {d : Nat} {X : Dk} (h : Here KT w0 w [.disk d X]) (es : List Ev) (hes : es.length < 60) (hT : ∀ e ∈ es, TaleEv e) (hG : Glob w0) {m t : Nat} (hF : FD X (es.map encB) m t) :
    Calls Tryz.prog 13 #[.pointer (some ⟨d, 0, none⟩), .string evN, .int .i64 5] w fun r w' => ∃ lb X' K, r = .returned (.tuple #[.pointer (some ⟨lb, 0, none⟩), .int .i64 0]) ∧ K ≤ es.length ∧ (∀ la, Low (es.map encB) m t la → la ≤ K) ∧ (m = 0 → X' = X ∧ K = 0) ∧ Jx w0 w' d lb X' m K (es.take K) [] := by
  have hm13 : m < 13 := by have := hF.len; rw [List.length_map] at this; omega
  have hml : 5 * m ≤ es.length + 4 := by have := hF.len; rw [List.length_map] at this; exact this
  have HNM : Hid (∀ W, Calls Tryz.prog 21 #[.string evN] W fun e w' => e = .returned (.bool true) ∧ w' = W) := Lib.hid (fun W => by
    have := ename_any evN W (by decide)
    rw [show nameB evN = true by decide +kernel] at this
    exact this.mono (fun e w' q => ⟨q.1, q.2.symm⟩))
  have hdn := h_down h (i := 0) rfl
  rw [hF.down] at hdn
  have HDN := Lib.hid (hdn.mono (fun e w' q => And.intro q.1 q.2.symm))
  have hbx := h_box h (lgC d 0 (.slice none 0 0) 0) 68
  have hj0 : Jx w0 (w.alloc (.cells #[.pointer (some ⟨d, 0, none⟩), .string evN, .int .i64 5, .int .i64 0, .slice none 0 0, .int .i64 0, .int .i64 0] 68)) d w.heap.size X 0 0 [] [] := ⟨.slice none 0 0, h_row hbx (e := 72) (v := .slice none 0 0) (sz := 9) (n := 0) (xs := []) (Below.refl _ _) ⟨rfl, .inl ⟨rfl, rfl⟩⟩ (fun b hb => by cases hb)⟩
  have HFI := Lib.hid (find_any hj0 hF hm13)
  obtain ⟨nm, hnm⟩ : ∃ nm, evN = nm := ⟨_, rfl⟩
  have HQ := Lib.hid (And.intro hF (And.intro hT (And.intro hG (And.intro hes hml))))
  have HE := Lib.hid hnm
  have hb0 := h.bel
  rw [hnm] at HNM HFI ⊢
  clear h hF hT hG hes hdn hbx hj0 hnm
  go_enter Tryz.func13, Tryz.ntmps13
  go_wp2_with fail
  refine (HNM.out _).mono ?_
  rintro e w ⟨rfl, rfl⟩
  go_wp2_with fail
  refine HDN.out.mono ?_
  rintro e w ⟨rfl, rfl⟩
  go_wp2_with fail
  refine HFI.out.mono ?_
  rintro e w1 ⟨rfl, hj⟩
  generalize w.heap.size = lb at hj ⊢
  obtain ⟨v1, hb1⟩ := hj.box
  have c3 : w1.cell? ⟨lb, 3, none⟩ = some (.int .i64 m) := hb1.cell 3
  have HS0 : Hid (OpAt w0 w1 d lb X es m t 0) := Lib.hid (by
    by_cases c : m = 0
    · subst c
      refine .inr ⟨rfl, X, 0, Nat.zero_le _, fun la hla => by have := hla.1 rfl; omega, fun _ => ⟨rfl, rfl⟩, ?_⟩
      rw [List.take_zero]; exact hj
    · refine .inl ⟨by omega, ?_⟩
      rw [Nat.mul_zero, List.take_zero]; exact hj)
  clear hj hb1 HFI HDN HNM hb0
  go_wp2_with fail
  clear c3
  go_loopw [40] (fun c wr => ∃ k : Nat, k ≤ m ∧ c = .int .i64 k ∧ Hid (OpAt w0 wr d lb X es m t k)) (fun c _ => m - (intOf c).toNat)
  case atStart => exact ⟨0, by omega, rfl, HS0⟩
  case round =>
    obtain ⟨k, hk, rfl, HR⟩ := hrel
    by_cases hlt : k < m
    · have hjr : Jx w0 wr d lb X m 0 (es.take (5 * k)) [] := by
        rcases HR.out with ⟨_, c⟩ | ⟨c, _⟩
        · exact c
        · omega
      obtain ⟨hr0, hrd⟩ := HQ.out.1.read hm13 hlt
      have HFL : Hid (∀ W f l es' us', Jx w0 W d lb X f l es' us' → Calls Tryz.prog 25 #[.pointer (some ⟨lb, 0, none⟩), .int .i64 k] W fun e w' => e = .returned (.string (fN k)) ∧ Jx w0 w' d lb X f l es' us' ∧ Below W.heap.size W w') := Lib.hid (fun W f l es' us' hW => by
        obtain ⟨v, hb⟩ := hW.box
        refine (file_any lb k W (hb.cell 1) (by omega)).mono ?_
        rintro e w' ⟨rfl, q, rfl⟩
        exact ⟨rfl, hW.drewN q, bdrewN (Below.refl _ _) q⟩)
      have HRE : Hid (∀ W, Jx w0 W d lb X m 0 (es.take (5 * k)) [] → Calls Tryz.prog 24 #[.pointer (some ⟨d, 0, none⟩), .string (fN k)] W fun e w' => ∃ b c, e = .returned (.tuple #[.slice b (readD X (fN k)).1.size c, .int .i64 0]) ∧ (readD X (fN k)).1.size ≤ c ∧ BIn w' b (readD X (fN k)).1.data.toList ∧ Jx w0 w' d lb X m 0 (es.take (5 * k)) [.row (.slice b (readD X (fN k)).1.size c) 5 1 (readD X (fN k)).1.size (bV (readD X (fN k)).1)]) := Lib.hid (fun W hW => by
        have := jr_read hW (fN k) (by have := fN_size k (by omega); omega)
        rw [hr0] at this
        exact this)
      have HJ := Lib.hid hjr
      have hsl : (readD X (fN k)).1.size = (readD X (fN k)).1.data.toList.length := by rw [Array.length_toList]; rfl
      have HRD := Lib.hid (And.intro hrd hsl)
      obtain ⟨s, hs⟩ : ∃ s, (readD X (fN k)).1 = s := ⟨_, rfl⟩
      have HSE := Lib.hid hs
      rw [hs] at HRE HRD
      obtain ⟨nb, hnb⟩ : ∃ nb, s.size = nb := ⟨_, rfl⟩
      rw [hnb] at HRE HRD
      have HNB := Lib.hid hnb
      have i1 : (k : Int) < (m : Int) := by omega
      obtain ⟨m1, hm1⟩ : ∃ m1, m1 + 1 = m := ⟨m - 1, by omega⟩
      have q1 : (m : Int) - 1 = (m1 : Int) := by omega
      have q2 : IntKind.i64.wrap ((m : Int) - 1) = (m1 : Int) := by rw [q1]; exact IntWalk.i64_in _ (by omega)
      have HM1 := Lib.hid hm1
      obtain ⟨fk, hfk⟩ : ∃ fk, fN k = fk := ⟨_, rfl⟩
      have HFK := Lib.hid hfk
      rw [hfk] at HFL HRE
      clear hr0 hrd hs hnb hfk hsl HR hjr hm1 HS0
      go_wp2_with fail
      refine (HFL.out _ _ _ _ _ HJ.out).mono ?_
      rintro e w2 ⟨rfl, hj2, -⟩
      have HJ2 := Lib.hid hj2
      clear hj2 HJ
      go_wp2_with fail
      refine (HRE.out _ HJ2.out).mono ?_
      rintro e w3 ⟨rb, rc, rfl, hrc, hin, hj3⟩
      obtain ⟨v3, hb3⟩ := hj3.box
      have c3 : w3.cell? ⟨lb, 3, none⟩ = some (.int .i64 m) := hb3.cell 3
      have HJ3 := Lib.hid (And.intro hj3 (And.intro hin hrc))
      clear hj3 hin hb3 HRE HJ2 hrc
      obtain ⟨tt, htt⟩ : ∃ tt, (if k + 1 = m then t else (cat (seg (es.map encB) k)).length) = tt := ⟨_, rfl⟩
      have httl : tt ≤ (cat (seg (es.map encB) k)).length := by
        rw [← htt]
        split
        · exact HQ.out.1.tl k (by assumption)
        · exact Nat.le_refl _
      have HRD1 : Hid (s.data.toList = (cat (seg (es.map encB) k)).take tt) := Lib.hid (by rw [← htt]; exact HRD.out.1)
      have hnt : nb = tt := by
        rw [HRD.out.2, HRD1.out, List.length_take]; omega
      have HLO : Hid (∀ last : Bool, (last = false → k + 1 ≠ m) → Calls Tryz.prog 26 #[.pointer (some ⟨lb, 0, none⟩), .slice rb nb rc, .bool last] w3 fun r w' => ∃ (j : Nat) (st : Int), r = .returned (.tuple #[.int .i64 (off (seg (es.map encB) k) j : Nat), .int .i64 st, .int .i64 0]) ∧ Cut (seg (es.map encB) k) tt j st ∧ Jx w0 w' d lb X m 0 (es.take (5 * k) ++ (segE es k).take j) [.row (.slice rb nb rc) 5 1 nb (bV s)]) := Lib.hid (fun last hlast => by
        have hin := HJ3.out.2.1
        rw [HRD1.out, ← segE_map] at hin
        have := HLD HJ3.out.1 (segE es k) (by rw [segE_len]; omega) (fun e he => HQ.out.2.1 e (segE_mem he)) HQ.out.2.2.1 (by rw [List.length_take]; have := HQ.out.2.2.2.1; omega) hin (by rw [segE_map]; exact httl) hnt HJ3.out.2.2 last (fun c => by
          have hne := hlast c
          rw [if_neg hne] at htt
          refine ⟨by rw [segE_map]; exact htt.symm, ?_⟩
          rw [segE_len]
          have := HQ.out.2.2.2.2
          omega)
        rw [segE_map] at this
        exact this)
      have HSY : Hid (∀ W f l es' us', Jx w0 W d lb X f l es' us' → Calls Tryz.prog 28 #[.pointer (some ⟨d, 0, none⟩), .string fk] W fun e w' => e = .returned (.int .i64 0) ∧ Jx w0 w' d lb (stepS X (fN k)).1 f l es' us') := Lib.hid (fun W f l es' us' hW => by
        have := jr_sync hW (fN k) (by have := fN_size k (by omega); omega)
        rw [HQ.out.1.sync0 hm13 hlt, HFK.out] at this
        rw [HFK.out]
        exact this)
      have HRP : Hid (∀ W f l es' o, o ≤ nb → Jx w0 W d lb X f l es' [.row (.slice rb nb rc) 5 1 nb (bV s)] → Calls Tryz.prog 27 #[.pointer (some ⟨d, 0, none⟩), .string fk, .slice rb o rc] W fun e w' => e = .returned (.int .i64 0) ∧ Jx w0 w' d lb (stepR X (fN k) (cutB s o)).1 f l es' [.row (.slice rb nb rc) 5 1 nb (bV s)]) := Lib.hid (fun W f l es' o ho hW => by
        have hsz : (cutB s o).size = o := size_cut s o (by rw [HNB.out]; exact ho)
        have hbi : ByIn W rb s := by
          obtain ⟨v, hh⟩ := hW
          have hr := h_rowAt (i := 3) hh rfl
          have hn := HNB.out
          subst hn
          obtain ⟨b', c', hv, _, _, hb', _⟩ := row_of_by hr
          simp only [Value.slice.injEq] at hv
          rw [hv.1]; exact hb'
        have := jr_replace hW (fN k) (cutB s o) rb rc (by have := fN_size k (by omega); omega) (by unfold ByIn; rw [data_cut]; exact BIn.front hbi o) (i := 0) rfl (by
          have h1 := HNB.out
          have h2 := hW.ok.sum
          rw [hsz]
          have h3 : nb ≤ 210 * 5 := by
            have h4 := HRD.out.2
            have h5 := cat_len' (seg (es.map encB) k) (fun p hp => by
              unfold seg at hp
              obtain ⟨e, he, rfl⟩ := List.mem_map.1 (List.mem_of_mem_drop (List.mem_of_mem_take hp))
              exact (enc_len (enc_ok (HQ.out.2.1 e he))).2)
            have h6 := seg_len (es.map encB) k
            omega
          omega) o hsz.symm
        rw [HQ.out.1.rep0 hW.ok hm13 hlt (cutB s o) (by rw [HSE.out, hsz, HNB.out]; exact ho), HFK.out] at this
        rw [HFK.out]
        exact this)
      have HEND : Hid (∀ w' X' us' j st, k + 1 = m → Cut (seg (es.map encB) k) tt j st → Jx w0 w' d lb X' m 0 (es.take (5 * k) ++ (segE es k).take j) us' → OpAt w0 w' d lb X es m t (k + 1)) := Lib.hid (fun w' X' us' j st hkm hc hj => by
        rw [if_pos hkm] at htt
        subst htt
        exact OpAt.fin hkm HQ.out.2.2.2.2 hc (Jx.ext (us := []) hj))
      have HMID : Hid (∀ w' us' j st, k + 1 ≠ m → Cut (seg (es.map encB) k) tt j st → Jx w0 w' d lb X m 0 (es.take (5 * k) ++ (segE es k).take j) us' → st = 0 ∧ OpAt w0 w' d lb X es m t (k + 1)) := Lib.hid (fun w' us' j st hkm hc hj => by
        rw [if_neg hkm] at htt
        obtain ⟨h1, h2⟩ := hc.whole (by rw [off_all]; exact htt.symm)
        have h3 := seg_len (es.map encB) k
        rw [List.length_map] at h3
        have := HQ.out.2.2.2.2
        have h5 : j = 5 := by omega
        subst h5
        refine ⟨h1, .inl ⟨by omega, ?_⟩⟩
        rw [segE_take es k 5 (by omega)] at hj
        exact Jx.ext (us := []) hj)
      have HOF : Hid (∀ j st, Cut (seg (es.map encB) k) tt j st → off (seg (es.map encB) k) j ≤ nb ∧ nb ≤ rc) := Lib.hid (fun j st hc => ⟨by rw [hnt]; exact hc.off, HJ3.out.2.2⟩)
      clear htt httl hnt HRD HRD1 HJ3
      by_cases hkl : k = m1
      · subst hkl
        have q3 : ((k : Int) == (k : Int)) = true := by simp
        have HKM : Hid (k + 1 = m) := Lib.hid HM1.out
        clear HMID
        go_wp2_with fail
        refine (HLO.out true (by intro c; cases c)).mono ?_
        rintro r w4 ⟨j, st, rfl, hcut, hj4⟩
        have HC4 := Lib.hid (And.intro hcut hj4)
        obtain ⟨ho1, ho2⟩ := HOF.out j st hcut
        obtain ⟨o, ho⟩ : ∃ o, off (seg (es.map encB) k) j = o := ⟨_, rfl⟩
        rw [ho] at ho1 ⊢
        have hst := hcut.st
        clear hj4 HLO q3 ho hcut HOF
        rcases hst with ⟨hst, _⟩ | ⟨hst, _⟩
        · subst hst
          clear HRP ho1 ho2
          go_wp2_with fail
          refine (HFL.out _ _ _ _ _ HC4.out.2).mono ?_
          rintro e w5 ⟨rfl, hj5, -⟩
          have HJ5 := Lib.hid hj5
          clear hj5
          go_wp2_with fail
          refine (HSY.out _ _ _ _ _ HJ5.out).mono ?_
          rintro e w6 ⟨rfl, hj6⟩
          have HE6 := Lib.hid (HEND.out _ _ _ _ _ HKM.out HC4.out.1 hj6)
          clear hj6 HJ5 HSY HEND HC4 HFL
          go_wp2_with fail
          go_roundw
          case rel => exact ⟨k + 1, by omega, by go_num, HE6⟩
          case measure => simp [intOf]; omega
        · subst hst
          have e1 : ∀ W, (Instr.slice 22 (.slice rb nb rc) none (some (.int .i64 o)) none).run Tryz.prog W = .ok (.slice rb o rc) W := fun W => run_slice_to W 22 5 rb nb rc o 1 Tryz.underlying22 info1 (by omega)
          have HO := Lib.hid ho1
          have HJ5 := Lib.hid (HC4.out.2.bel ((Below.refl _ _).drew))
          obtain ⟨v5, hb5⟩ := HJ5.out.box
          have kk0 : w4.drew.cell? ⟨lb, 3, none⟩ = some (.int .i64 m) := hb5.cell 3
          clear hb5
          clear HSY ho1 ho2
          go_wp2_with fail
          go_region_held3 (fun Y => Y.cell? ⟨lb, 3, none⟩ = some (.int .i64 m))
            (first | assumption | exact kk0 | exact kk1 | exact kk2 | fail)
            (first
              | (go_at_call 25
                 (with_reducible refine (HFL.out _ _ _ _ _ HJ5.out).mono ?_); rintro e w6 ⟨rfl, hj6, -⟩
                 obtain ⟨v6, hb6⟩ := hj6.box
                 have kk1 : w6.cell? ⟨lb, 3, none⟩ = some (.int .i64 m) := hb6.cell 3)
              | (go_at_call 27
                 (with_reducible refine (HRP.out _ _ _ _ _ HO.out hj6).mono ?_); rintro e w7 ⟨rfl, hj7⟩
                 obtain ⟨v7, hb7⟩ := hj7.box
                 have kk2 : w7.cell? ⟨lb, 3, none⟩ = some (.int .i64 m) := hb7.cell 3)
              | fail)
          all_goals
            have HE7 := Lib.hid (HEND.out _ _ _ _ _ HKM.out HC4.out.1 hj7)
            clear hj7 hj6 HJ5 HRP HEND HC4 HFL kk0 kk1 kk2 hb6 hb7
            go_wp2_with fail
            go_roundw
            case rel => exact ⟨k + 1, by omega, by go_num, HE7⟩
            case measure => simp [intOf]; omega
      · have q3 : ((k : Int) == (m1 : Int)) = false := by simp; omega
        have q4 : ¬ (k : Int) = (m1 : Int) := by omega
        have HKM : Hid (k + 1 ≠ m) := Lib.hid (by have := HM1.out; omega)
        clear hkl HEND HSY HRP HOF HFL
        go_wp2_with fail
        refine (HLO.out false (fun _ => HKM.out)).mono ?_
        rintro r w4 ⟨j, st, rfl, hcut, hj4⟩
        obtain ⟨hst, hop⟩ := HMID.out _ _ _ _ HKM.out hcut hj4
        subst hst
        obtain ⟨o, ho⟩ : ∃ o, off (seg (es.map encB) k) j = o := ⟨_, rfl⟩
        rw [ho]
        have HE6 := Lib.hid hop
        clear hcut hj4 hop ho HLO q3 q4
        go_wp2_with fail
        go_roundw
        case rel => exact ⟨k + 1, by omega, by go_num, HE6⟩
        case measure => simp [intOf]; omega
    · have i1 : ¬ (k : Int) < (m : Int) := by omega
      obtain ⟨X', K, hK, hlow, h0, hjr⟩ : ∃ X' K, K ≤ es.length ∧ (∀ la, Low (es.map encB) m t la → la ≤ K) ∧ (m = 0 → X' = X ∧ K = 0) ∧ Jx w0 wr d lb X' m 0 (es.take K) [] := by
        rcases HR.out with ⟨c, _⟩ | ⟨_, c⟩
        · omega
        · exact c
      obtain ⟨rb, rc, _, _, _, hb⟩ := hjr.cells
      have hlk : (es.take K).length = K := by rw [List.length_take]; omega
      rw [hlk] at hb
      have c4 : wr.cell? ⟨lb, 4, none⟩ = some (.slice rb K rc) := hb.cell 4
      have c5 : wr.cell? ⟨lb, 5, none⟩ = some (.int .i64 0) := hb.cell 5
      have f5 := hb.free 5
      have HF := Lib.hid (And.intro hK (And.intro hlow (And.intro h0 (hjr.last K))))
      clear hK hlow h0 hjr hb hlk HR HS0
      go_wp2_with fail
      go_ret2
      exact ⟨lb, rfl, X', K, HF.out⟩
end
end Tr
end Go.Proofs.YtkofcegdoilaeaaGreatDoor
namespace Go.Proofs.YtkofcegdoilaeaaGreatDoor
open Go.RowKit Go.MapKept Go.Maps
set_option linter.unusedVariables false
set_option linter.unusedSimpArgs false
namespace Tr
open Es Tl Rk
theorem load_spec : LoadSpec := @load_any
theorem jopen_any {w0 w : World} {d : Nat} {X : Dk} (h : Here KT w0 w [.disk d X]) (es : List Ev) (hes : es.length < 60) (hT : ∀ e ∈ es, TaleEv e) (hG : Glob w0) {m t : Nat} (hF : FD X (es.map encB) m t) :
    Calls Tryz.prog 13 #[.pointer (some ⟨d, 0, none⟩), .string ⟨#[101, 118, 101, 110, 116, 115]⟩, .int .i64 5] w fun r w' => ∃ lb X' K, r = .returned (.tuple #[.pointer (some ⟨lb, 0, none⟩), .int .i64 0]) ∧ K ≤ es.length ∧ (∀ la, Low (es.map encB) m t la → la ≤ K) ∧ (m = 0 → X' = X ∧ K = 0) ∧ Jx w0 w' d lb X' m K (es.take K) [] := jopen_of load_spec h es hes hT hG hF
theorem jopen_new {w0 w : World} {d : Nat} (h : Here KT w0 w [.disk d newD]) (hG : Glob w0) :
    Calls Tryz.prog 13 #[.pointer (some ⟨d, 0, none⟩), .string ⟨#[101, 118, 101, 110, 116, 115]⟩, .int .i64 5] w fun r w' => ∃ lb, r = .returned (.tuple #[.pointer (some ⟨lb, 0, none⟩), .int .i64 0]) ∧ Jx w0 w' d lb newD 0 0 [] [] := by
  refine (jopen_any h [] (by simp) (by simp) hG (m := 0) (t := 0) FD.new).mono ?_
  rintro r w' ⟨lb, X', K, rfl, _, _, h0, hj⟩
  obtain ⟨rfl, rfl⟩ := h0 rfl
  exact ⟨lb, rfl, hj⟩
set_option maxRecDepth 100000 in
set_option maxHeartbeats 4000000 in
theorem logged_any {w0 w : World} {d : Nat} (h : Here KT w0 w [.disk d newD]) (b : Option Addr) (cap n : Nat) (ls : List Ev) (hin : InW w0 b 8 (ls.map evC)) (hn : ls.length = n) (hT : ∀ e ∈ ls, TaleEv e) (hG : Glob w0) (hl : n < 60) :
    Calls Tryz.prog 7 #[.pointer (some ⟨d, 0, none⟩), .slice b n cap] w fun r w' => ∃ lb, r = .returned (.pointer (some ⟨lb, 0, none⟩)) ∧ ∃ X' f' la', JD X' (ls.map encB) f' la' ∧ Jx w0 w' d lb X' f' la' ls [] := by
  have HOP := Lib.hid (jopen_new h hG)
  have HT := Lib.hid (And.intro hin (And.intro hn (And.intro hT (And.intro hG hl))))
  clear h hin hn hT hG hl
  go_enter Tryz.func7, Tryz.ntmps7
  go_wp2_with fail
  refine HOP.out.mono ?_
  rintro e w1 ⟨lb, rfl, hj⟩
  have hap := append_all hj JD.new b cap n ls HT.out.1 HT.out.2.1 HT.out.2.2.1 HT.out.2.2.2.1 (by have := HT.out.2.2.2.2; simp; omega)
  have HAP := Lib.hid hap
  clear hj hap HOP
  go_wp2_with fail
  refine HAP.out.mono ?_
  rintro e w2 ⟨rfl, X', f', la', _, hj, h2⟩
  have HF : Hid (JD X' (ls.map encB) f' la' ∧ Jx w0 w2 d lb X' f' la' ls []) := Lib.hid ⟨hj, h2⟩
  clear hj h2 HAP
  go_wp2_with fail
  go_ret
  exact ⟨lb, rfl, X', f', la', HF.out⟩
end Tr
end Go.Proofs.YtkofcegdoilaeaaGreatDoor
namespace Go.Proofs.YtkofcegdoilaeaaGreatDoor
open Go.RowKit Go.MapKept Go.Maps
set_option linter.unusedVariables false
set_option linter.unusedSimpArgs false
namespace Tr
open Es Tl Rk
def kC (x : Int) : List Value := [.int .i64 x]
theorem kLen (x : Int) : (kC x).length = 1 := rfl
theorem kOne (x : Int) : ∀ u ∈ kC x, u.oneCell' = true := fun u hu => by
  simp only [kC, List.mem_cons, List.not_mem_nil, or_false] at hu
  subst hu; rfl
theorem sizeEv : ∃ i, Tryz.prog.info? 60 = some i ∧ i.size = 8 := by
  obtain ⟨i, h1, _, h3, _⟩ := tinfo infoEv
  exact ⟨i, h1, h3⟩
/-- behind the second Append: the journal has all, at least k last -/
def Both (V W : World) (d lb : Nat) (l : List Ev) (k : Nat) (X : Dk) (f la : Nat) : Prop := k ≤ la ∧ JD X (l.map encB) f la ∧ Jx V W d lb X f la l []
theorem Both.bel {V W W' : World} {d lb : Nat} {l : List Ev} {k : Nat} {X : Dk} {f la : Nat} (h : Both V W d lb l k X f la) (hb : Below W.heap.size W W') : Both V W' d lb l k X f la := ⟨h.1, h.2.1, h.2.2.bel hb⟩
set_option maxRecDepth 100000 in
set_option maxHeartbeats 16000000 in
theorem torn_small (b : Option Addr) (cap : Nat) (xs : List Int) (at_ : Nat) (kb : Option Addr) (kc : Nat) (ks : List Int) (w : World) (hG : Glob w) (hX : Bys w b xs) (hn : xs.length ≤ 300) (hw : at_ ≤ 255) (hK : Bys w kb ks) (nk : Nat) (hnk : ks.length = nk) :
    Calls Tryz.prog 3 #[.slice b xs.length cap, .int .u8 at_, .slice kb nk kc] w fun e w' => e = .returned (.bool true) ∧ Below w.heap.size w w' := by
  obtain ⟨iI, hiI, hzI, hsI, hbI⟩ := tinfo infoInt
  have HBG := Lib.hid (begun_any b cap xs w hG hX hn)
  have HG := Lib.hid (And.intro hG (And.intro hK hnk))
  obtain ⟨nx, hnx⟩ : ∃ nx, xs.length = nx := ⟨_, rfl⟩
  rw [hnx] at HBG ⊢
  clear hG hX hn hnx hK hnk
  go_enter Tryz.func3, Tryz.ntmps3
  go_wp2_with fail
  refine HBG.out.mono ?_
  rintro e w1 ⟨b1, c1, s, t, n, l, rfl, hnl, hnc, hcm, hi, h59, hT, hnd, hb1⟩
  have HL := Lib.hid (And.intro hnl (And.intro h59 (And.intro hT (And.intro hnc hi))))
  have HB1 := Lib.hid hb1
  have hn59 : n ≤ 59 := by omega
  clear HBG hnl h59 hT hnd hb1 hi hcm
  go_upto_region 2 with (first
    | ((with_reducible show wpList _ _ _ (Oper.mk _ (Op.store 32 _ _) _ _ _ _ :: _) _ _); refine wpList_store_rowTo rfl 32 _ _ rfl rfl w1.heap.size (sgC s).toArray rfl rfl 32 zerS.toArray (Bk.new w1 zerS 32) (by rw [List.size_toArray, sgLen]; kernel_rfl) (by rw [List.size_toArray, List.size_toArray, sgLen]; rfl) (all_oneCell_toArray (wtsOne s 6)) ?_)
    | fail)
  have hbv : Below w1.heap.size w1 ((w1.alloc (.cells zerS.toArray 32)).setRow w1.heap.size (sgC s).toArray) := bel_setRow ((Below.refl _ _).alloc (Nat.le_refl _) _) (Nat.le_refl _) _
  have HBV := Lib.hid hbv
  unfold zerS at HBV hbv
  generalize (w1.alloc _).setRow w1.heap.size (sgC s).toArray = V1 at HBV ⊢
  clear hbv
  go_wp2_with fail
  refine (parses_any V1 ((HG.out.1.bel HB1.out).bel HBV.out)).mono ?_
  rintro e w2 ⟨rfl, b2⟩
  have HB2 : Hid (Below w1.heap.size w1 w2) := Lib.hid (HBV.out.trans (b2.mono HBV.out.size))
  clear b2 HBV
  by_cases hk20 : nk ≤ 20
  · have h20 : ¬ (20 : Int) < (nk : Int) := by omega
    have hGV : Glob w2 := ((HG.out.1.bel HB1.out).bel HB2.out)
    have HGV := Lib.hid hGV
    have HNEW := Lib.hid (h_new (Here.nil (K := KT) (Below.refl w2.heap.size w2)))
    obtain ⟨k, hk⟩ : ∃ k, at_ % (n + 1) = k := ⟨_, rfl⟩
    have hkn : k ≤ n := by rw [← hk]; have := Nat.mod_lt at_ (show 0 < n + 1 by omega); omega
    have a1 : IntKind.i64.wrap (at_ : Int) = (at_ : Int) := IntWalk.i64_in _ (by omega)
    have a2 : ¬ ((n : Int) + 1 = 0) := by omega
    have a2' : ((n : Int) + 1 == 0) = false := by simp; omega
    have a3 : (at_ : Int) % ((n : Int) + 1) = (k : Int) := by rw [← hk]; rfl
    have a4 : (at_ : Int).tmod ((n : Int) + 1) = (k : Int) := by rw [Int.tmod_eq_emod_of_nonneg (by omega)]; exact a3
    have hc1 : n ≤ c1 := hnc
    obtain ⟨sb, hsb⟩ : ∃ sb, subB b1 c1 k 8 = sb := ⟨_, rfl⟩
    obtain ⟨nd, hndd⟩ : ∃ nd, n - k = nd := ⟨_, rfl⟩
    obtain ⟨cd, hcd⟩ : ∃ cd, c1 - k = cd := ⟨_, rfl⟩
    have e1 : ∀ q, q ≤ n → ∀ W, (Instr.slice 23 (.slice b1 n c1) none (some (.int .i64 (q : Nat))) none).run Tryz.prog W = .ok (.slice b1 q c1) W := fun q hq W => run_slice_to W 23 60 b1 n c1 q 8 Tryz.underlying23 sizeEv (by omega)
    have e1k := e1 k hkn
    have e2 : ∀ W, (Instr.slice 23 (.slice b1 n c1) (some (.int .i64 k)) none none).run Tryz.prog W = .ok (.slice sb nd cd) W := fun W => by
      rw [← hsb, ← hndd, ← hcd]
      exact run_slice_from W 23 60 b1 n c1 k 8 Tryz.underlying23 sizeEv hkn
    have hiV : InW w2 b1 8 (l.map evC) := HL.out.2.2.2.2.bel HB2.out
    have HI : Hid (InW w2 b1 8 (l.map evC) ∧ InW w2 sb 8 ((l.drop k).map evC)) := Lib.hid ⟨hiV, by
      rw [← hsb, List.map_drop]
      exact subB_inw hiV (by rw [List.length_map, ← HL.out.1]; exact hc1)⟩
    have HE1 := Lib.hid e1
    have HN : Hid (k ≤ n ∧ n - k = nd ∧ l.length = n ∧ n ≤ 59 ∧ (l.take k).length = k ∧ (l.drop k).length = nd) := Lib.hid ⟨hkn, hndd, HL.out.1.symm, hn59, by rw [List.length_take]; have := HL.out.1; omega, by rw [List.length_drop]; have := HL.out.1; omega⟩
    clear hk hsb hndd hcd hiV e1 hGV hk20 hnc
    go_wp2_with fail
    refine HNEW.out.mono ?_
    rintro e w3 ⟨d, rfl, h3⟩
    have HLG := Lib.hid (logged_any (w0 := w2) h3 b1 c1 k (l.take k) (HI.out.1.take' k) HN.out.2.2.2.2.1 (fun e he => HL.out.2.2.1 e (List.mem_of_mem_take he)) HGV.out (by have := HN.out; omega))
    clear h3 HNEW
    go_wp2_with fail
    refine HLG.out.mono ?_
    rintro e w4 ⟨lb, rfl, X4, f4, la4, hj4, hx4⟩
    have HSY := Lib.hid (syncall_any hx4 hj4 (by have := HN.out; omega) k HN.out.2.2.2.2.1)
    clear hj4 hx4 HLG
    go_wp2_with fail
    refine HSY.out.mono ?_
    rintro e w5 ⟨rfl, X5, hj5, hx5⟩
    have HLA := Lib.hid (lasting_any hx5.toJr)
    have HAP : Hid (Calls Tryz.prog 10 #[.pointer (some ⟨lb, 0, none⟩), .slice sb nd cd] w5 fun r w' => r = .returned (.tuple #[.int .i64 k, .int .i64 0]) ∧ ∃ X f la, Both w2 w' d lb l k X f la) := Lib.hid (by
      have := append_all hx5 hj5 sb cd nd (l.drop k) HI.out.2 HN.out.2.2.2.2.2 (fun e he => HL.out.2.2.1 e (List.mem_of_mem_drop he)) HGV.out (by have := HN.out; omega)
      rw [HN.out.2.2.2.2.1, List.take_append_drop] at this
      refine this.mono ?_
      rintro r w' ⟨rfl, X', f', la', q1, q2, q3⟩
      exact ⟨rfl, X', f', la', q1, q2, q3⟩)
    clear hj5 hx5 HSY
    go_wp2_with fail
    refine HLA.out.mono ?_
    rintro e w5 ⟨rfl, rfl⟩
    clear HLA
    go_wp2_with fail
    refine HAP.out.mono ?_
    rintro e w6 ⟨rfl, X6, f6, la6, h6⟩
    have HX6 := Lib.hid h6
    have HLE := Lib.hid (len_any h6.2.2.toJr n HN.out.2.2.1)
    have HBA : Hid (Below w.heap.size w w6) := Lib.hid ((HB1.out.trans (HB2.out.mono HB1.out.size)).trans (h6.2.2.init.mono (Nat.le_trans HB1.out.size HB2.out.size)))
    clear h6 HAP
    go_wp2_with fail
    refine HLE.out.mono ?_
    rintro e w6 ⟨rfl, rfl⟩
    clear HLE
    go_wp2_with fail
    go_loopw [16, 87] (fun u c wr => ∃ i : Nat, i ≤ nk ∧ c = .int .i64 i ∧ Hid (MkG 3 1 kC w6 wr u (ks.take i))) (fun _ c _ => nk - (intOf c).toNat)
    case atStart => exact ⟨0, by omega, rfl, Lib.hid (MkG.nil w6)⟩
    case round =>
      obtain ⟨i, hi, rfl, HM⟩ := hrel
      by_cases hlt : i < nk
      · obtain ⟨x, hx⟩ : ∃ x, ks[i]? = some x := ⟨ks[i]'(by have := HG.out.2.2; omega), List.getElem?_eq_getElem _⟩
        obtain ⟨B, off, rfl, hB, hc⟩ := inw_row HG.out.2.1.1 hx
        have hc := hc wr (HBA.out.trans (HM.out.bl.mono HBA.out.size)) 0 _ rfl
        rw [Nat.mul_one, Nat.add_zero] at hc
        have hxr := HG.out.2.1.2 x (List.mem_of_getElem? hx)
        have hxw : IntKind.i64.wrap x = x := IntWalk.i64_in _ (by omega)
        have HT : Hid (ks.take (i + 1) = ks.take i ++ [x]) := Lib.hid (by rw [List.take_add_one, hx]; rfl)
        have hi0 : (0 : Int) ≤ (i : Int) := by omega
        have hi1 : (i : Int) < (nk : Int) := by omega
        have HM2 := Lib.hid (HM.out.alloc (.cells #[.int .i64 x] 3))
        have HIN : Hid (InW (wr.alloc (.cells #[.int .i64 x] 3)) (some ⟨wr.heap.size, 0, none⟩) 1 ([x].map kC)) := Lib.hid (inw_one (f := kC) (x := x) (Bk.new wr (kC x) 3))
        have HLN : Hid ((ks.take i).length + [x].length ≤ 1000000) := Lib.hid (by rw [List.length_take]; simp; omega)
        clear hx hxr
        go_wp2_with (at_builtin; refine wpList_append_m kLen kOne _ rfl _ _ _ rfl 3 iI _ 8 Tryz.underlying45 hiI hzI hsI hbI rfl (by decide) (by omega) u16 (ks.take i) [x] rfl HM2.out.tx (some ⟨wr.heap.size, 0, none⟩) 1 1 rfl rfl HIN.out HLN.out ?_; intro v5 w5 o5 f5 h5)
        have HM5 := Lib.hid (HM2.out.more o5 f5 h5)
        clear o5 f5 h5 HM2 HIN HLN
        go_wp2_with fail
        go_roundw
        case rel => exact ⟨i + 1, by omega, by go_num, by rw [HT.out]; exact HM5⟩
        case measure => simp [intOf]; omega
      · have hik : i = nk := by omega
        have hi1 : ¬ (i : Int) < (nk : Int) := by omega
        have hM := HM.out
        rw [List.take_of_length_le (by have := HG.out.2.2; omega)] at hM
        obtain ⟨kb2, kc2, rfl, _, _, hin2⟩ := hM.read kLen (by decide)
        have HNW : Hid (∀ q o, kb2 = some ⟨q, o, none⟩ → w6.heap.size ≤ q) := Lib.hid (fun q o hq => hM.nw q (by rw [hq]; rfl))
        obtain ⟨m7, t7, hF7, hlow7⟩ := HX6.out.2.1.crash HX6.out.2.2.ok (by rw [List.length_map]; have := HN.out; omega) ks
        have HF7 := Lib.hid (And.intro hF7 hlow7)
        have HCR : Hid (Calls Tryz.prog 12 #[.pointer (some ⟨d, 0, none⟩), .slice kb2 ks.length kc2] wr fun e w' => e = .returned (.tuple #[]) ∧ Here KT w2 w' [.disk d (crashD X6 ks)]) := Lib.hid (by
          obtain ⟨v6, h6⟩ := HX6.out.2.2
          refine (h_crash h6 (i := 0) rfl hM.bl ks (fun x hx => by have := HG.out.2.1.2 x hx; unfold I64; omega) (by have := HG.out.2.2; omega) kb2 kc2 hin2 (.inr fun q o hq => .inr (HNW.out q o hq)) _ rfl).mono ?_
          rintro e w' ⟨rfl, h7⟩
          exact ⟨rfl, Here.init (os := [_]) h7⟩)
        have HB7 : Hid (Below w2.heap.size w2 wr) := Lib.hid (HX6.out.2.2.init.trans (hM.bl.mono HX6.out.2.2.init.size))
        rw [HG.out.2.2] at HCR ⊢
        clear hik hM hin2 HNW hF7 hlow7 HM
        go_wp2_with fail
        refine HCR.out.mono ?_
        rintro e w7 ⟨rfl, h7⟩
        have HOP := Lib.hid (jopen_any h7 l (by have := HN.out; omega) HL.out.2.2.1 HGV.out HF7.out.1)
        clear h7 HCR
        go_wp2_with fail
        refine HOP.out.mono ?_
        rintro e w8 ⟨lb2, X8, K, rfl, hK, hlow, _, h8⟩
        have hkK : k ≤ K := Nat.le_trans HX6.out.1 (hlow _ HF7.out.2)
        have hKn : K ≤ n := by have := HN.out; omega
        have hKl : (l.take K).length = K := by rw [List.length_take]; omega
        have HLE2 := Lib.hid (len_any h8.toJr K hKl)
        have HRA := Lib.hid (readall_any h8.toJr K hKl (by have := HN.out; omega))
        have H8 := Lib.hid (And.intro h8 hKl)
        have e3 := HE1.out K hKn
        have hK1 : ¬ (K : Int) < (k : Int) := by omega
        have hK2 : ¬ (n : Int) < (K : Int) := by omega
        clear h8 hK hlow HOP hKl
        go_wp2_with fail
        refine HLE2.out.mono ?_
        rintro e w8 ⟨rfl, rfl⟩
        go_wp2_with fail
        refine HLE2.out.mono ?_
        rintro e w8 ⟨rfl, rfl⟩
        go_wp2_with fail
        refine HRA.out.mono ?_
        rintro e w9 ⟨u, v, rfl, hgot⟩
        obtain ⟨ub, uc, rfl, _, _, hui, _⟩ := inw_of_rowm evLen (by decide) (h_rowAt (i := 0) hgot rfl)
        obtain ⟨vb, vc, rfl, _, _, _, _⟩ := inw_of_rowm iLen (by decide) (h_rowAt (i := 1) hgot rfl)
        rw [H8.out.2, List.length_range]
        have hj9 := H8.out.1.bel hgot.bel
        have HLE3 := Lib.hid (len_any hj9.toJr K H8.out.2)
        have hB29 : Below w2.heap.size w2 w9 := hj9.init
        have HSM := Lib.hid (same_eq ub b1 K uc c1 (l.take K) w9 hui ((HI.out.1.bel hB29).take' K) H8.out.2.symm (by have := HN.out; omega))
        have HB9 := Lib.hid hB29
        clear hgot hui hj9 hB29 HRA HLE2
        go_wp2_with fail
        refine HLE3.out.mono ?_
        rintro e w9 ⟨rfl, rfl⟩
        go_wp2_with fail
        refine HSM.out.mono ?_
        rintro e w10 ⟨rfl, hb10⟩
        have HB10 : Hid (Below w.heap.size w w10) := Lib.hid ((HB1.out.trans (HB2.out.mono HB1.out.size)).trans ((HB9.out.trans (hb10.mono HB9.out.size)).mono (Nat.le_trans HB1.out.size HB2.out.size)))
        clear hb10 HSM HLE3
        go_wp2_with fail
        go_ret
        exact ⟨rfl, HB10.out⟩
  · have h20 : (20 : Int) < (nk : Int) := by omega
    clear hk20
    go_wp2_with fail
    refine (parses_any w2 ((HG.out.1.bel HB1.out).bel HB2.out)).mono ?_
    rintro e w3 ⟨rfl, b3⟩
    have HB3 : Hid (Below w.heap.size w w3) := Lib.hid ((HB1.out.trans (HB2.out.mono HB1.out.size)).trans (b3.mono (Nat.le_trans HB1.out.size HB2.out.size)))
    clear b3
    go_wp2_with fail
    go_ret
    exact ⟨rfl, HB3.out⟩
end Tr
end Go.Proofs.YtkofcegdoilaeaaGreatDoor
namespace Go.Proofs.YtkofcegdoilaeaaGreatDoor
open Go.RowKit Go.MapKept Go.Maps
set_option linter.unusedVariables false
set_option linter.unusedSimpArgs false
namespace Tr
open Es Tl Rk
theorem finB' {fn : Func} {q p q2 q3 : Tmp} {tmps : Array Value} {w : World} {g : Nat} {cs : List Value} (h : fn.results = #[.tmp q, .cell p 32, .tmp q2, .tmp q3]) (hp : tmps.getD p undef = .pointer (some ⟨g, 0, none⟩)) (hl : cs.length = 22) (hb : Bk w g cs 32) : (results fn tmps).run Tryz.prog w = .ok (.tuple #[tmps.getD q undef, .agg cs.toArray, tmps.getD q2 undef, tmps.getD q3 undef]) w := by
  have := run_loadVar_row (P := Tryz.prog) w g 32 _ _ (0, 0) _ hb Tryz.underlying32 rfl (by rw [List.size_toArray, hl]; kernel_rfl)
  have hp' : tmps[p]?.getD undef = .pointer (some ⟨g, 0, none⟩) := by simpa using hp
  simp [results, h, hp', asAddr, this, Result.andThen]
set_option maxRecDepth 100000 in
set_option maxHeartbeats 8000000 in
theorem begun_long (b : Option Addr) (n cap : Nat) (w : World) (hn : 300 < n) :
    Calls Tryz.prog 4 #[.slice b n cap] w fun e w' => e = .returned (.tuple #[.slice none 0 0, .agg zerS.toArray, .int .i64 0, .bool false]) ∧ Below w.heap.size w w' := by
  have n300 : (300 : Int) < (n : Int) := by omega
  go_enter Tryz.func4, Tryz.ntmps4
  go_wp2_with (first
    | ((with_reducible show wpList _ _ _ (Oper.mk _ (Op.store 32 _ _) _ _ _ _ :: _) _ _); refine wpList_store_rowTo rfl 32 _ _ rfl rfl w.heap.size zerS.toArray rfl rfl 32 zerS.toArray (Bk.new w zerS 32) (by kernel_rfl) rfl (all_oneCell_toArray (List.all_eq_true.1 rfl)) ?_)
    | fail)
  exact bodyPost_ret (finB' (cs := zerS) (g := w.heap.size) rfl rfl rfl ((Bk.new w zerS 32).setRow zerS)) rfl ⟨rfl, bel_setRow ((Below.refl _ _).alloc (Nat.le_refl _) _) (Nat.le_refl _) _⟩
set_option maxRecDepth 100000 in
set_option maxHeartbeats 8000000 in
theorem torn_long (b : Option Addr) (n cap : Nat) (at_ : Nat) (kb : Option Addr) (nk kc : Nat) (w : World) (hG : Glob w) (hn : 300 < n) :
    Calls Tryz.prog 3 #[.slice b n cap, .int .u8 at_, .slice kb nk kc] w fun e w' => e = .returned (.bool true) ∧ Below w.heap.size w w' := by
  have HBG := Lib.hid (begun_long b n cap w hn)
  have HG := Lib.hid hG
  clear hG hn
  go_enter Tryz.func3, Tryz.ntmps3
  go_wp2_with fail
  refine HBG.out.mono ?_
  rintro e w1 ⟨rfl, hb1⟩
  have HB1 := Lib.hid hb1
  clear HBG hb1
  go_upto_region 2 with (first
    | ((with_reducible show wpList _ _ _ (Oper.mk _ (Op.store 32 _ _) _ _ _ _ :: _) _ _); refine wpList_store_rowTo rfl 32 _ _ rfl rfl w1.heap.size zerS.toArray rfl rfl 32 zerS.toArray (Bk.new w1 zerS 32) (by kernel_rfl) rfl (all_oneCell_toArray (List.all_eq_true.1 rfl)) ?_)
    | fail)
  have hbv : Below w1.heap.size w1 ((w1.alloc (.cells zerS.toArray 32)).setRow w1.heap.size zerS.toArray) := bel_setRow ((Below.refl _ _).alloc (Nat.le_refl _) _) (Nat.le_refl _) _
  have HBV := Lib.hid (HB1.out.trans (hbv.mono HB1.out.size))
  unfold zerS at HBV hbv ⊢
  generalize (w1.alloc _).setRow w1.heap.size _ = V at HBV ⊢
  clear hbv
  go_wp2_with fail
  refine (parses_any V (HG.out.bel HBV.out)).mono ?_
  rintro e w2 ⟨rfl, b2⟩
  have HB2 : Hid (Below w.heap.size w w2) := Lib.hid (HBV.out.trans (b2.mono HBV.out.size))
  clear b2
  go_wp2_with fail
  refine (parses_any w2 (HG.out.bel HB2.out)).mono ?_
  rintro e w3 ⟨rfl, b3⟩
  have HB3 : Hid (Below w.heap.size w w3) := Lib.hid (HB2.out.trans (b3.mono HB2.out.size))
  clear b3
  go_wp2_with fail
  go_ret
  exact ⟨rfl, HB3.out⟩
theorem torn_any (b : Option Addr) (cap : Nat) (xs : List Int) (at_ : Nat) (kb : Option Addr) (kc : Nat) (ks : List Int) (w : World) (hG : Glob w) (hX : Bys w b xs) (hw : at_ ≤ 255) (hK : Bys w kb ks) :
    Calls Tryz.prog 3 #[.slice b xs.length cap, .int .u8 at_, .slice kb ks.length kc] w fun e w' => e = .returned (.bool true) ∧ Below w.heap.size w w' := by
  by_cases hn : xs.length ≤ 300
  · exact torn_small b cap xs at_ kb kc ks w hG hX hn hw hK _ rfl
  · exact torn_long b xs.length cap at_ kb ks.length kc w hG (by omega)
end Tr
end Go.Proofs.YtkofcegdoilaeaaGreatDoor
namespace Go.Proofs.YtkofcegdoilaeaaGreatDoor
open Go.ChangeShapes Go.WideShapes Go.ChangeAt Go.RowKit
set_option linter.unusedVariables false
set_option linter.unusedSimpArgs false
namespace Tl
theorem gPow : Tryz.prog.globalNamed "internal/strconv.uint64pow10" = some 2 := by kernel_rfl
theorem gKinds : Tryz.prog.globalNamed "cicerone/tale.kinds" = some 0 := by kernel_rfl
theorem tPow : (Tryz.prog.globals[2]?).map (·.type) = some 177 := by kernel_rfl
theorem tKinds : (Tryz.prog.globals[0]?).map (·.type) = some 113 := by kernel_rfl
theorem glob_of {W : World} (hL : laidMetH Tryz.prog Rows.topTornRow.laid W) (hsh : W.ShapedOpen Tryz.prog) : Glob W := by
  rw [MakeChecks.laidMetH_plain _ _ _ (by kernel_rfl)] at hL
  obtain ⟨m, hm⟩ := cell_of_shapedOpen_int (P := Tryz.prog) (g := 1) (t := 3) (zero := #[.int .i64 0]) hsh (of_decide_eq_true (by kernel_rfl)) (by kernel_rfl) rfl (by kernel_rfl) (by kernel_rfl) Tryz.underlying3
  obtain ⟨ps, ⟨g0, t0, cs0, f0, p0, q0, hg0, ht0, hv0, hd0, ⟨g1, t1, cs1, f1, p1, q1, hg1, ht1, hv1, hd1, ⟨g2, t2, cs2, f2, p2, q2, hg2, ht2, hv2, hd2, ⟨g3, t3, cs3, f3, p3, q3, hg3, ht3, hv3, hd3, ⟨g4, t4, cs4, f4, p4, q4, hg4, ht4, hv4, hd4, ⟨g5, t5, cs5, f5, p5, q5, hg5, ht5, hv5, hd5, _⟩, _⟩, _⟩, _⟩, _⟩, _⟩, _⟩ := hL
  obtain rfl := Option.some.inj (gPow.symm.trans hg2)
  obtain rfl := Option.some.inj (tPow.symm.trans ht2)
  obtain rfl := Option.some.inj (gKinds.symm.trans hg4)
  obtain rfl := Option.some.inj (tKinds.symm.trans ht4)
  have k2 := Lib.cells_of_tab (zs := Lib.pow10Tab) Tryz.underlying177 Tryz.underlying30 (by kernel_rfl) (by kernel_rfl) hd2
  have k4 := Lib.cells_of_tab (zs := kindZ) Tryz.underlying113 Tryz.underlying58 (by kernel_rfl) (by kernel_rfl) hd4
  have arr : ∀ {cs : Array Value} {l : List Value}, cs.toList = l → cs = l.toArray := fun h => by rw [← h]
  have hlt : 6 < W.heap.size := by
    unfold World.var? at hv3
    rw [show Tryz.prog.globalNamed "unicode/utf8.acceptRanges" = some 6 by kernel_rfl, Option.bind_some] at hv3
    split at hv3
    · rename_i e
      exact (Array.getElem?_eq_some_iff.1 e).1
    · cases hv3
  refine ⟨?_, ?_, ⟨m, hm⟩, hlt⟩
  · rw [hv4, arr k4]
  · unfold Lib.TabIs
    rw [hv2, arr k2]
end Tl
end Go.Proofs.YtkofcegdoilaeaaGreatDoor
namespace Go.Proofs.YtkofcegdoilaeaaGreatDoor.topTorn
open Go.ChangeShapes Go.WideShapes Go.ChangeAt Go.RowKit Go.Joins
set_option linter.unusedVariables false
theorem own : ownKnob Tryz.prog.godebug = none := by kernel_rfl
theorem laidOut : laidOutB Tryz.prog = true := by kernel_rfl
theorem walk (W : World) (hG : Tl.Glob W) (b : Option Addr) (c : Nat) (xs : List Int) (l : xs.length ≤ c) (m : c ≤ maxLen) (hi : InW W b 1 (xs.map fun x => [.int .u8 x])) (ho : ∀ x ∈ xs, (Lit.int .u8 x).wf = true) (a : Int) (wa : (Lit.int .u8 a).wf = true)
    (b2 : Option Addr) (c2 : Nat) (ys : List Int) (l2 : ys.length ≤ c2) (m2 : c2 ≤ maxLen) (hi2 : InW W b2 1 (ys.map fun x => [.int .u8 x])) (ho2 : ∀ x ∈ ys, (Lit.int .u8 x).wf = true) :
    Calls Tryz.prog 3 #[.slice b xs.length c, .int .u8 a, .slice b2 ys.length c2] W fun e W' => e = .returned (.bool true) ∧ Below W.heap.size W W' := by
  have r8 : ∀ x : Int, (Lit.int .u8 x).wf = true → 0 ≤ x ∧ x ≤ 255 := fun x h => by simpa [Lit.wf, IntKind.min, IntKind.max, IntKind.signed, IntKind.bits] using h
  obtain ⟨k, rfl⟩ : ∃ k : Nat, a = (k : Int) := ⟨a.toNat, by have := r8 a wa; omega⟩
  exact Tr.torn_any b c xs k b2 c2 ys W hG ⟨hi, fun x hx => r8 x (ho x hx)⟩ (by have := r8 _ wa; omega) ⟨hi2, fun x hx => r8 x (ho2 x hx)⟩
set_option maxRecDepth 100000 in
theorem lifted (os : Os) (started : os.Started) (H : Type) (enc : TypeId × Value → H) :
    ReturnsInHanded {} Tryz.checked os 3 .any (fun w args => (Rows.topTornSpec.pre enc Tryz.prog Tryz.f3 Rows.topTornRow.domain false w args ∧ laidMetH Tryz.prog Rows.topTornRow.laid w) ∧ sizedMet enc Tryz.prog Tryz.f3 (OpenSpec.ofChange Rows.topTornSpec) false w args)
      (Rows.topTornSpec.post enc Tryz.prog Tryz.f3 false true false false) := by
  refine returnsInHanded_of_calls (C := Tryz.checked) own started (by kernel_rfl)
    (ChangeSpec.witness_shaped (enc := enc) (C := Tryz.checked) (os := os) (X := fun w _ => laidMetH Tryz.prog Rows.topTornRow.laid w) false (World.laidAll Tryz.prog os Rows.topTornRow.laid) #[.slice none 0 0, .int .u8 0, .slice none 0 0] 7 (World.laidAll_os _ _ _)
      (World.shaped_of_ZipB (by kernel_rfl) (by kernel_rfl)) (by kernel_rfl) (by kernel_rfl) (by kernel_rfl)
      (by rw [MakeChecks.laidMetH_plain _ _ _ (by kernel_rfl)]; exact laidMet_laidAll _ (by kernel_rfl) (by kernel_rfl))) ?_
  intro w tape i _ hsh _ hok hpre _
  obtain ⟨_, _, _, fn', hfn', _, _, _, _, hval0⟩ := hok
  obtain rfl : fn' = Tryz.f3 := Option.some.inj (hfn'.symm.trans Tryz.func3)
  obtain ⟨⟨⟨ds, gs, before, hw, hc⟩, hx⟩, _⟩ := hpre
  have hW := DataW.Whole.of_heap (w' := w.forCall tape i) (by rfl) hw
  have hL : laidMetH Tryz.prog Rows.topTornRow.laid (w.forCall tape i) := hx.of_heap (by rfl)
  have hG := Tl.glob_of hL hsh
  generalize w.forCall tape i = W at hW hL hG hsh hval0 ⊢
  generalize i.args = args at hW hval0 ⊢
  have hfin : Calls Tryz.prog 3 args W fun e W' => ∃ v, e = .returned v ∧ Rows.topTornSpec.post enc Tryz.prog Tryz.f3 false true false false W args v W' := by
    have hval : ∀ (j : Nat) t v, Tryz.f3.params[j]? = some t → args[j]? = some v → Value.okWide Tryz.prog W .any w.heap.size t v := hval0
    have hW' := hW
    obtain ⟨p, q, hA0, hV, rfl, hfz, hnd⟩ := hW
    have hA : DataW.TrodAll enc Tryz.prog W 0 (fun _ => true) true Tryz.f3.params.toList args.toList ds p := hA0
    rw [Tryz.params3] at hA hval
    obtain ⟨v0, vs0, d0, ds0, p0, q0, hargs, rfl, rfl, h0, r0⟩ := trodAll_cons hA
    obtain ⟨v1, vs1, d1, ds1, p1, q1, rfl, rfl, rfl, h1, r1⟩ := trodAll_cons r0
    obtain ⟨v2, vs2, d2, ds2, p2, q2, rfl, rfl, rfl, h2, r2⟩ := trodAll_cons r1
    obtain ⟨rfl, rfl, rfl⟩ := trodAll_nil r2
    obtain rfl : args = #[v0, v1, v2] := by cases args; simp_all
    obtain ⟨rfl, rfl⟩ := trodVars_none hV
    have k0 := h0
    have lt0 : ∀ x ∈ p0, x.block < W.heap.size := by obtain ⟨m, hm⟩ := k0; exact DataW.trod_lt m _ _ _ hm
    obtain ⟨b0, c0, x0, rfl, l0, m0, i0, o0⟩ := open_ints Tryz.underlying22 Tryz.underlying5 (by kernel_rfl) (hval 0 22 v0 rfl rfl) h0
    have k1 := h1
    have lt1 : ∀ x ∈ p1, x.block < W.heap.size := by obtain ⟨m, hm⟩ := k1; exact DataW.trod_lt m _ _ _ hm
    obtain ⟨a1, rfl, rfl, rfl, w1⟩ := open_int Tryz.underlying5 (hval 1 5 v1 rfl rfl) h1
    have k2 := h2
    have lt2 : ∀ x ∈ p2, x.block < W.heap.size := by obtain ⟨m, hm⟩ := k2; exact DataW.trod_lt m _ _ _ hm
    obtain ⟨b2, c2, x2, rfl, l2, m2, i2, o2⟩ := open_ints Tryz.underlying22 Tryz.underlying5 (by kernel_rfl) (hval 2 22 v2 rfl rfl) h2
    clear hA0 hval0
    refine (walk W hG b0 c0 x0 l0 m0 i0 o0 a1 w1 b2 c2 x2 l2 m2 i2 o2).mono fun e W' ⟨he, bel⟩ => ?_
    subst he
    exact ⟨_, rfl, _, _, _, [], _, [], hW', trodAll_mk1 (shut_bool Tryz.underlying4 _), (trodAll_cons_mk (Below.trod laidOut (by kernel_rfl) (of_decide_eq_true (by kernel_rfl)) k0 bel lt0) (trodAll_cons_mk (Below.trod laidOut (by kernel_rfl) (of_decide_eq_true (by kernel_rfl)) k1 bel lt1) (trodAll_cons_mk (Below.trod laidOut (by kernel_rfl) (of_decide_eq_true (by kernel_rfl)) k2 bel lt2) trodAll_mk0))), rfl, bel.frame _, fun h => by cases h⟩
  refine hfin.mono fun e W' ⟨v, he, hp⟩ => ?_
  subst he
  exact ChangeSpec.post_blind hp
theorem over : Rows.topTornRow.holds Tryz.pinned (OpenSpec.ofChange Rows.topTornSpec) :=
  OpenClaim.holds_of_wide 3 Tryz.f3 rfl rfl rfl rfl rfl rfl rfl ⟨rfl, rfl, rfl, rfl, rfl⟩ rfl rfl rfl rfl rfl (by kernel_rfl) Tryz.func3 (by kernel_rfl)
    (of_decide_eq_true (by kernel_rfl)) (by unfold Func.isWrapper; first | (rw [if_pos (by decide +kernel)]; kernel_rfl) | (rw [if_neg (by decide +kernel)]; exact ⟨rfl, rfl⟩))
    (fun os started H enc _ => lifted os started H enc)
theorem proved : Rows.TopTornCardSaid :=
  Claim7.holds_tied_plain_at .later [] [.data, .data, .data, .data, .data, .pinned] true (true, "630d1b2acb4eae8c376dd1a91afa2b293e823237a2a3858fe0ab9a3d98d1d1ac") false
    over (fun _ h => by cases h) (by kernel_rfl) (fun _ h => by cases h) topTorn_row_tie rfl ⟨rfl, rfl⟩ (by kernel_rfl) rfl
    (fun f fn hf hfn => by
      obtain rfl : f = 3 := Option.some.inj ((show Tryz.prog.funcNamed "cicerone/ciceronetop.TopTorn" = some 3 by kernel_rfl).symm.trans hf) |>.symm
      obtain rfl : fn = Tryz.f3 := (Option.some.inj (Tryz.func3.symm.trans hfn)).symm
      exact ⟨by kernel_rfl, fun j t ht => by
        rw [Tryz.params3] at ht
        have hm : t ∈ [22, 5, 22] := by simpa using Array.mem_of_getElem? ht
        have hall : ([22, 5, 22].all fun u => !Tryz.prog.wantsStandIn u) = true := by kernel_rfl
        exact (show Tryz.prog.wantsStandIn t = false by simpa using List.all_eq_true.1 hall t hm)⟩)
    (by kernel_rfl)
#print axioms proved
end Go.Proofs.YtkofcegdoilaeaaGreatDoor.topTorn

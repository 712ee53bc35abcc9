/- A disk, boxes and rows of the call's own beside one another (kind KT). frame.All. journal: file, number. journal: number. journal: seal. journal: Len, Lasting. journal: Read of all. event.Sort; same. journal: a journal beside its disk and other things. -/
import Derived.Test.YtkofcegdoilaeaaGreatDoorPk13
import Derived.Test.YtkofcegdoilaeaaGreatDoorPk4
import Derived.Laws.StructEq
namespace Go.Proofs.YtkofcegdoilaeaaGreatDoor
namespace Tr
open Go.RowKit Go.MapKept Go.Maps
set_option linter.unusedVariables false
inductive Ob where
  | disk (d : Nat) (X : Dk)
  | box (b : Nat) (cs : List Value) (t : TypeId)
  | row (v : Value) (e : TypeId) (sz : Nat) (n : Nat) (xs : List Value)
def Holds (w : World) : Ob → List Nat → Prop
  | .disk d X, B => DiskAt w d B X
  | .box b cs t, B => Bk w b cs t ∧ B = [b]
  | .row v e sz n xs, B => w.ownsRow 0 e sz v n xs ∧ B = v.ownBlock.toList
theorem Holds.fr {S : Nat → Prop} {w w' : World} {o : Ob} {B : List Nat} (h : Holds w o B) (hf : Fr S w w') (hs : ∀ b ∈ B, ¬ S b) : Holds w' o B := by
  cases o with
  | disk d X => exact DiskAt.fr h hf hs
  | box b cs t =>
    obtain ⟨h1, rfl⟩ := h
    exact ⟨h1.fr hf (hs b (by simp)), rfl⟩
  | row v e sz n xs =>
    obtain ⟨h1, rfl⟩ := h
    exact ⟨hf.row h1 (fun b hb => hs b (by simp [hb])), rfl⟩
theorem Holds.lt {w : World} {o : Ob} {B : List Nat} (h : Holds w o B) : ∀ b ∈ B, b < w.heap.size := by
  cases o with
  | disk d X => exact DiskAt.lt h
  | box b cs t =>
    obtain ⟨h1, rfl⟩ := h
    intro b' hb
    simp at hb
    subst hb
    exact h1.lt
  | row v e sz n xs =>
    obtain ⟨h1, rfl⟩ := h
    intro b' hb
    exact own_lt h1 (Option.mem_toList.1 hb)
def KT : Kind Ob := ⟨Holds, Holds.fr, Holds.lt⟩
theorem h_box {w0 w : World} {os : List Ob} (h : Here KT w0 w os) (cs : List Value) (t : TypeId) : Here KT w0 (w.alloc (.cells cs.toArray t)) (os ++ [.box w.heap.size cs t]) :=
  h.push ((Below.refl _ _).alloc (Nat.le_refl _) _) (o := .box _ _ _) ⟨Bk.new w cs t, rfl⟩ (fun b hb => by simp at hb; omega)
theorem h_boxAt {w0 w : World} {os : List Ob} (h : Here KT w0 w os) {i b : Nat} {cs : List Value} {t : TypeId} (hi : os[i]? = some (.box b cs t)) : Bk w b cs t := by
  obtain ⟨B, h1, _⟩ := h.use hi
  exact h1.1
theorem h_row {w0 w w' : World} {os : List Ob} (h : Here KT w0 w os) {v : Value} {e : TypeId} {sz n : Nat} {xs : List Value} (hb : Below w.heap.size w w') (ht : w'.ownsRow 0 e sz v n xs) (hn : ∀ b, v.ownBlock = some b → w.heap.size ≤ b) : Here KT w0 w' (os ++ [.row v e sz n xs]) :=
  h.push hb (o := .row _ _ _ _ _) ⟨ht, rfl⟩ (fun b hb => hn b (Option.mem_toList.1 hb))
theorem h_rowAt {w0 w : World} {os : List Ob} (h : Here KT w0 w os) {i : Nat} {v : Value} {e : TypeId} {sz n : Nat} {xs : List Value} (hi : os[i]? = some (.row v e sz n xs)) : w.ownsRow 0 e sz v n xs := by
  obtain ⟨B, h1, _⟩ := h.use hi
  exact h1.1
theorem h_ok {w0 w : World} {os : List Ob} {i d : Nat} {X : Dk} (h : Here KT w0 w os) (hi : os[i]? = some (.disk d X)) : DkOk X := by
  obtain ⟨B, h1, _⟩ := h.use hi
  exact DiskAt.ok h1
/-- what a call of a disk's leaves, among other things -/
theorem h_post {w0 w w' w'' : World} {os : List Ob} {i : Nat} {B : List Nat} {d : Nat} {X' : Dk} (h3 : ∀ w' o' B', KT.Holds w' o' B' → Fr (fun b => b ∈ B) w w' → Sprd w B B' → Here KT w0 w' (os.set i o')) (hb : Below w.heap.size w w') (hp : DkPost w' d B X' w'') : Here KT w0 w'' (os.set i (.disk d X')) := by
  obtain ⟨B', k1, k2, k3⟩ := hp
  refine h3 w'' (.disk d X') B' k1 ((Fr.of_bel (S := fun b => b ∈ B) hb).trans k2 (fun _ _ h => h)) (fun b hb' => (k3 b hb').imp id (fun h => ?_))
  have := hb.size
  omega
theorem h_new {w0 w : World} {os : List Ob} (h : Here KT w0 w os) :
    Calls Tryz.prog 6 #[] w fun e w' => ∃ d, e = .returned (.pointer (some ⟨d, 0, none⟩)) ∧ Here KT w0 w' (os ++ [.disk d newD]) := by
  refine (new_any w).mono ?_
  rintro e w' ⟨d, rfl, h1, h2, h3⟩
  exact ⟨d, rfl, h.push h3 (o := .disk _ _) h1 (fun b hb => by simp at hb; omega)⟩
section
variable {w0 w w' : World} {os : List Ob} {i d : Nat} {X : Dk}
theorem h_append (h : Here KT w0 w os) (hi : os[i]? = some (.disk d X)) (hb : Below w.heap.size w w') (n s : ByteArray) (sb : Option Addr) (cap : Nat) (hn : n.size ≤ 1000) (hs : ByIn w' sb s) (hsb : ∀ k o, sb = some ⟨k, o, none⟩ → w.heap.size ≤ k) (hsz : s.size ≤ 5000000) (ln : Nat) (hln : ln = s.size) :
    Calls Tryz.prog 35 #[.pointer (some ⟨d, 0, none⟩), .string n, .slice sb ln cap] w' fun e w'' => e = .returned (.int .i64 (stepA X n s).2) ∧ Here KT w0 w'' (os.set i (.disk d (stepA X n s).1)) := by
  subst hln
  obtain ⟨B, h1, _, h3, _⟩ := h.use hi
  refine (append_at (DiskAt.bel h1 hb) n s sb cap hn hs (fun k o hk hB => by have := DiskAt.lt h1 k hB; have := hsb k o hk; omega) hsz).mono ?_
  rintro e w'' ⟨rfl, k⟩
  exact ⟨rfl, h_post h3 hb k⟩
theorem h_replace (h : Here KT w0 w os) (hi : os[i]? = some (.disk d X)) (hb : Below w.heap.size w w') (n s : ByteArray) (sb : Option Addr) (cap : Nat) (hn : n.size ≤ 1000) (hs : ByIn w' sb s) (hsb : ∀ k o, sb = some ⟨k, o, none⟩ → w.heap.size ≤ k) (hsz : s.size ≤ 5000000) (ln : Nat) (hln : ln = s.size) :
    Calls Tryz.prog 27 #[.pointer (some ⟨d, 0, none⟩), .string n, .slice sb ln cap] w' fun e w'' => e = .returned (.int .i64 (stepR X n s).2) ∧ Here KT w0 w'' (os.set i (.disk d (stepR X n s).1)) := by
  subst hln
  obtain ⟨B, h1, _, h3, _⟩ := h.use hi
  refine (replace_at (DiskAt.bel h1 hb) n s sb cap hn hs (fun k o hk hB => by have := DiskAt.lt h1 k hB; have := hsb k o hk; omega) hsz).mono ?_
  rintro e w'' ⟨rfl, k⟩
  exact ⟨rfl, h_post h3 hb k⟩
theorem h_sync (h : Here KT w0 w os) (hi : os[i]? = some (.disk d X)) (n : ByteArray) (hn : n.size ≤ 1000) :
    Calls Tryz.prog 28 #[.pointer (some ⟨d, 0, none⟩), .string n] w fun e w' => e = .returned (.int .i64 (stepS X n).2) ∧ Here KT w0 w' (os.set i (.disk d (stepS X n).1)) := by
  obtain ⟨B, h1, _, h3, _⟩ := h.use hi
  refine (sync_at h1 n hn).mono ?_
  rintro e w'' ⟨rfl, k⟩
  exact ⟨rfl, h_post h3 (Below.refl _ _) k⟩
theorem h_down (h : Here KT w0 w os) (hi : os[i]? = some (.disk d X)) : Calls Tryz.prog 22 #[.pointer (some ⟨d, 0, none⟩)] w fun e w' => e = .returned (.bool X.down) ∧ w = w' := by
  obtain ⟨B, h1, _⟩ := h.use hi
  exact down_at h1
theorem h_names (h : Here KT w0 w os) (hi : os[i]? = some (.disk d X)) : Calls Tryz.prog 20 #[.pointer (some ⟨d, 0, none⟩)] w fun e w' => ∃ v : Value, e = .returned v ∧ MkT w w' v (fnames X.L) ∧ Here KT w0 w' os := by
  obtain ⟨B, h1, _⟩ := h.use hi
  refine (names_at h1).mono ?_
  rintro e w' ⟨v, rfl, k⟩
  exact ⟨v, rfl, k, h.step_bel k.bl⟩
theorem h_read (h : Here KT w0 w os) (hi : os[i]? = some (.disk d X)) (n : ByteArray) (hn : n.size ≤ 1000) :
    Calls Tryz.prog 24 #[.pointer (some ⟨d, 0, none⟩), .string n] w fun e w' => ∃ u, e = .returned (.tuple #[u, .int .i64 (readD X n).2]) ∧ ByMk w w' u (readD X n).1 ∧ Here KT w0 w' os := by
  obtain ⟨B, h1, _⟩ := h.use hi
  refine (read_at h1 n hn).mono ?_
  rintro e w' ⟨u, rfl, k⟩
  exact ⟨u, rfl, k, h.step_bel k.bl⟩
/-- the keep of a crash lies where the disk doesn't: in what was there ahead of it, or in what came since -/
theorem h_crash (h : Here KT w0 w os) (hi : os[i]? = some (.disk d X)) (hb : Below w.heap.size w w') (keep : List Int) (hk : ∀ x ∈ keep, I64 x) (hkl : keep.length ≤ 1000) (kb : Option Addr) (kc : Nat) (hin : IntIn w' kb keep) (hkb : keep = [] ∨ ∀ k o, kb = some ⟨k, o, none⟩ → k < w0.heap.size ∨ w.heap.size ≤ k) (ln : Nat) (hln : ln = keep.length) :
    Calls Tryz.prog 12 #[.pointer (some ⟨d, 0, none⟩), .slice kb ln kc] w' fun e w'' => e = .returned (.tuple #[]) ∧ Here KT w0 w'' (os.set i (.disk d (crashD X keep))) := by
  subst hln
  obtain ⟨B, h1, h2, h3, _⟩ := h.use hi
  refine (crash_at (DiskAt.bel h1 hb) keep hk hkl kb kc hin (hkb.imp id fun hkb k o hk hB => by have := DiskAt.lt h1 k hB; have := h2 k hB; have := hkb k o hk; omega)).mono ?_
  rintro e w'' ⟨rfl, k⟩
  exact ⟨rfl, h_post h3 hb k⟩
end
theorem n_more {w0 w w' : World} {os : List Ob} (h : Here KT w0 w os) {i : Nat} {v v' : Value} {e : TypeId} {sz n n' : Nat} {xs xs' : List Value} (hi : os[i]? = some (.row v e sz n xs)) (ho : w'.ownsRow 0 e sz v' n' xs') (hf : Fr (fun b => v.ownBlock = some b) w w') (he : Hence v v' w) : Here KT w0 w' (os.set i (.row v' e sz n' xs')) := by
  obtain ⟨B, h1, _, h3, _⟩ := h.use hi
  obtain ⟨_, rfl⟩ := h1
  refine h3 w' (.row v' e sz n' xs') v'.ownBlock.toList ⟨ho, rfl⟩ (hf.mono fun b _ hb => Option.mem_toList.2 hb) (fun b hb => ?_)
  have hb' := Option.mem_toList.1 hb
  rcases he with e1 | e1
  · exact .inl (Option.mem_toList.2 (by rw [← e1]; exact hb'))
  · have := Option.some.inj (e1.symm.trans hb')
    exact .inr (by omega)
/-- a box's cell that was stored to -/
theorem n_set {w0 w : World} {os : List Ob} (h : Here KT w0 w os) {i b : Nat} {cs : List Value} {t : TypeId} (hi : os[i]? = some (.box b cs t)) (k : Nat) (u : Value) : Here KT w0 (w.setCell ⟨b, k, none⟩ u) (os.set i (.box b (cs.set k u) t)) := by
  obtain ⟨B, h1, _, h3, _⟩ := h.use hi
  obtain ⟨h2, rfl⟩ := h1
  exact h3 _ (.box b (cs.set k u) t) [b] ⟨h2.set k u, rfl⟩ ((Fr.refl _ _).setCell b k u (.inr (by simp))) (fun b' hb => .inl hb)
end Tr
end Go.Proofs.YtkofcegdoilaeaaGreatDoor
namespace Go.Proofs.YtkofcegdoilaeaaGreatDoor
open Go.RowKit Go.MapKept Go.Maps
set_option linter.unusedVariables false
set_option linter.unusedSimpArgs false
namespace Tr
open Es Tl Rk
abbrev Sl := Option Addr × Nat × Nat
def slV (x : Sl) : Value := .slice x.1 x.2.1 x.2.2
def slC (x : Sl) : List Value := [slV x]
theorem slLen (x : Sl) : (slC x).length = 1 := rfl
theorem slOne (x : Sl) : ∀ u ∈ slC x, u.oneCell' = true := fun u hu => by
  simp only [slC, List.mem_cons, List.not_mem_nil, or_false] at hu
  subst hu; rfl
def rowsOf (pr : List (Sl × Bs)) : List Ob := pr.map fun q => Ob.row (slV q.1) 5 1 q.2.length (q.2.flatMap bC)
/-- payloads in memory: a row of slices, and each one's bytes -/
def PayAt (w0 w : World) (u : Value) (pr : List (Sl × Bs)) : Prop := Here KT w0 w (.row u 22 1 (pr.map Prod.fst).length ((pr.map Prod.fst).flatMap slC) :: rowsOf pr)
theorem PayAt.nil (w : World) : PayAt w w (.slice none 0 0) [] := by
  have h := h_row (Here.nil (K := KT) (Below.refl w.heap.size w)) (e := 22) (v := .slice none 0 0) (sz := 1) (n := 0) (xs := []) (Below.refl _ _) ⟨rfl, .inl ⟨rfl, rfl⟩⟩ (fun b hb => by cases hb)
  exact h
theorem PayAt.more {w0 w w1 w2 : World} {u u' : Value} {pr : List (Sl × Bs)} {q : Sl} {p : Bs} (h : PayAt w0 w u pr) (hm : MkB w w1 (slV q) p) (o : Obj) (ho : w2.ownsRow 0 22 1 u' ((pr.map Prod.fst) ++ [q]).length (((pr.map Prod.fst) ++ [q]).flatMap slC)) (hf : Fr (fun b => u.ownBlock = some b) (w1.alloc o) w2) (he : Hence u u' (w1.alloc o)) : PayAt w0 w2 u' (pr ++ [(q, p)]) := by
  have h1 := h_row h (e := 5) (sz := 1) (n := p.length) (xs := p.flatMap bC) hm.bl hm.tx hm.nw
  have h2 := h1.step_bel ((Below.refl w1.heap.size w1).alloc (Nat.le_refl _) o)
  have h3 := n_more h2 (i := 0) rfl ho hf he
  unfold PayAt rowsOf at *
  simpa using h3
theorem PayAt.row {w0 w : World} {u : Value} {pr : List (Sl × Bs)} (h : PayAt w0 w u pr) : w.ownsRow 0 22 1 u (pr.map Prod.fst).length ((pr.map Prod.fst).flatMap slC) := h_rowAt (i := 0) h rfl
theorem PayAt.drew {w0 w : World} {u : Value} {pr : List (Sl × Bs)} (h : PayAt w0 w u pr) (hb : Below w.heap.size w w) : PayAt w0 w u pr := h
def AllPost (w : World) (ps : List Bs) (t : Nat) (e : Ending) (w' : World) : Prop := ∃ u j st pr, e = .returned (.tuple #[u, .int .i64 (off ps j : Nat), .int .i64 st]) ∧ Cut ps t j st ∧ pr.map Prod.snd = ps.take j ∧ PayAt w w' u pr
theorem infoSl : (Tryz.prog.info? 22).map (fun i => (i.zero, i.size, i.bytes)) = some (some (.slice none 0 0), 1, 24) := by kernel_rfl
set_option maxRecDepth 100000 in
set_option maxHeartbeats 4000000 in
theorem all_any {w : World} {b : Option Addr} {cap n : Nat} {ps : List Bs} {t : Nat} (hX : BIn w b ((cat ps).take t)) (ht : t ≤ (cat ps).length) (hn : n = t) (hc : n ≤ cap) (hs : n ≤ 100000) (hp : ∀ p ∈ ps, p.length ≤ 200) (hl : ps.length ≤ 1000) :
    Calls Tryz.prog 43 #[.slice b n cap] w (AllPost w ps t) := by
  obtain ⟨iS, hiS, hzS, hsS, hbS⟩ := tinfo infoSl
  subst hn
  have hlen : ((cat ps).take n).length = n := by rw [List.length_take]; omega
  have HF : Hid (∀ j, j ≤ ps.length → off ps j ≤ n → n = off ps j ∨ ∃ p th, ps[j]? = some p ∧ j < ps.length ∧ off ps j < n ∧ Front (((cat ps).take n).drop (off ps j)) p th ∧ ((th = false ∧ n < off ps (j + 1)) ∨ (th = true ∧ off ps (j + 1) ≤ n)) ∧ off ps (j + 1) = off ps j + (p.length + 10)) := Lib.hid (fun j hj hoj => by
    rcases next_frame ps n j ht hj hoj with e | ⟨p, hpj, hjl, hlt, h⟩
    · exact .inl e
    · have hpl := hp p (List.mem_of_getElem? hpj)
      have hlr : (((cat ps).take n).drop (off ps j)).length ≤ 100000 := by rw [List.length_drop, hlen]; omega
      refine .inr ?_
      rcases h with ⟨h1, h2, h3⟩ | ⟨h1, h2, h3⟩
      · exact ⟨p, false, hpj, hjl, hlt, ⟨hpl, hlr, fun e => (by cases e), fun _ => ⟨_, h3, h2⟩⟩, .inl ⟨rfl, h1⟩, off_succ hpj⟩
      · exact ⟨p, true, hpj, hjl, hlt, ⟨hpl, hlr, fun _ => h3, fun e => (by cases e)⟩, .inr ⟨rfl, h1⟩, h2⟩)
  have HX : Hid (BIn w b ((cat ps).take n) ∧ ((cat ps).take n).length = n ∧ n ≤ cap) := Lib.hid ⟨hX, hlen, hc⟩
  clear hX ht hp hlen
  go_enter Tryz.func43, Tryz.ntmps43
  go_wp2_with fail
  go_loopw [5, 6] (fun u c wr => ∃ (j : Nat) (pr : List (Sl × Bs)), j ≤ ps.length ∧ c = .int .i64 (off ps j : Nat) ∧ Hid (off ps j ≤ n ∧ pr.map Prod.snd = ps.take j ∧ PayAt w wr u pr)) (fun _ c _ => n - (intOf c).toNat)
  case atStart => exact ⟨0, [], by omega, rfl, Lib.hid ⟨by rw [off_zero]; omega, by simp, PayAt.nil w⟩⟩
  case round =>
    obtain ⟨j, pr, hj, rfl, HR⟩ := hrel
    have HFj := Lib.hid (HF.out j hj HR.out.1)
    have ho := HR.out.1
    rcases HFj.out with he | ⟨p, th, hpj, hjl, hlt, hfr, hth, hnx⟩
    · have q1 : ¬ ((off ps j : Nat) : Int) < (n : Int) := by omega
      have HE := Lib.hid he
      clear he HFj
      go_wp2_with fail
      go_ret3
      exact ⟨_, j, 0, pr, rfl, ⟨hj, by have := HE.out; omega, .inl ⟨rfl, HE.out⟩⟩, HR.out.2.1, HR.out.2.2⟩
    · have HBL : Hid (Below w.heap.size w wr) := Lib.hid HR.out.2.2.bel
      have hX1 : BIn wr (subB b cap (off ps j) 1) (((cat ps).take n).drop (off ps j)) := by
        have h1 := subB_inw (k := off ps j) (HX.out.1.bel HBL.out) (by rw [List.length_map, HX.out.2.1]; exact hc)
        rwa [← List.map_drop] at h1
      have HO := Lib.hid (open_any (n := n - off ps j) (cap := cap - off ps j) hX1 (by rw [List.length_drop, HX.out.2.1]) (by omega) hfr)
      have HQ := Lib.hid (And.intro hpj (And.intro hth hnx))
      have HPL := Lib.hid hfr.pl
      obtain ⟨o, hoo⟩ : ∃ o, off ps j = o := ⟨_, rfl⟩
      have HOO := Lib.hid hoo
      rw [hoo] at HO hlt ho ⊢
      have e1 : (Instr.slice 22 (.slice b n cap) (some (.int .i64 o)) none none).run Tryz.prog wr = .ok (.slice (subB b cap o 1) (n - o) (cap - o)) wr := run_slice_from wr 22 5 b n cap o 1 Tryz.underlying22 info1 ho
      have q1 : (o : Int) < (n : Int) := by omega
      clear hX1 hpj hfr hth hnx HFj hoo
      go_wp2_with fail
      refine HO.out.mono ?_
      rintro e w1 (⟨rfl, v, rfl, hm⟩ | ⟨rfl, rfl, hb1⟩)
      · have HT : Hid (off ps (j + 1) ≤ n ∧ off ps (j + 1) = o + (p.length + 10)) := Lib.hid (by
          have h := HQ.out.2
          rcases h.1 with ⟨c, _⟩ | ⟨_, c⟩
          · cases c
          · exact ⟨c, by rw [h.2, HOO.out]⟩)
        obtain ⟨vb, vc, rfl, _, _, _⟩ := hm.read bLen (by decide)
        have HM := Lib.hid hm
        have hrow := (HR.out.2.2.row)
        have HROW : Hid ((w1.alloc (.cells #[.slice vb p.length vc] 22)).ownsRow 0 22 1 u5 (pr.map Prod.fst).length ((pr.map Prod.fst).flatMap slC)) := Lib.hid (Fr.row (Fr.of_bel (S := none') (hm.bl.trans (((Below.refl w1.heap.size w1).alloc (Nat.le_refl _) _).mono hm.bl.size))) hrow (fun _ _ => id))
        have HIN : Hid (InW (w1.alloc (.cells #[.slice vb p.length vc] 22)) (some ⟨w1.heap.size, 0, none⟩) 1 ([((vb, p.length, vc) : Sl)].map slC)) := Lib.hid (inw_one (f := slC) (x := ((vb, p.length, vc) : Sl)) (Bk.new w1 (slC (vb, p.length, vc)) 22))
        have HLN : Hid ((pr.map Prod.fst).length + [((vb, p.length, vc) : Sl)].length ≤ 1000000) := Lib.hid (by
          have := congrArg List.length HR.out.2.1
          rw [List.length_map, List.length_take] at this
          rw [List.length_map, this]; simp; omega)
        obtain ⟨z, hz⟩ : ∃ z, p.length = z := ⟨_, rfl⟩
        have hz200 : z ≤ 200 := hz ▸ HPL.out
        obtain ⟨z10, hz10⟩ : ∃ z10, z + 10 = z10 := ⟨_, rfl⟩
        obtain ⟨o2, ho2⟩ : ∃ o2, o + z10 = o2 := ⟨_, rfl⟩
        have HZ : Hid (p.length = z ∧ off ps (j + 1) = o2) := Lib.hid ⟨hz, by rw [HT.out.2]; omega⟩
        rw [hz, hz10]
        rw [hz] at HM HROW HIN HLN
        have r1 : IntKind.i64.wrap ((o : Int) + (z10 : Int)) = (o2 : Int) := (IntWalk.i64_in _ (by omega)).trans (by omega)
        have hoo2 : o < o2 := by omega
        clear hm hrow HO e1 hz hz10 ho2
        go_wp2_with (at_builtin; refine wpList_append_m slLen slOne _ rfl _ _ _ rfl 22 iS _ 24 Tryz.underlying105 hiS hzS hsS hbS rfl (by decide) (by omega) u5 (pr.map Prod.fst) [((vb, z, vc) : Sl)] rfl HROW.out (some ⟨w1.heap.size, 0, none⟩) 1 1 rfl rfl HIN.out HLN.out ?_; intro v5 w5 o5 f5 h5)
        have HP := Lib.hid (HR.out.2.2.more (q := (vb, z, vc)) HM.out _ o5 f5 h5)
        clear o5 f5 h5 HROW HIN HLN
        go_wp2_with fail
        go_roundw
        case rel => exact ⟨j + 1, pr ++ [((vb, z, vc), p)], by omega, by rw [HZ.out.2], Lib.hid ⟨HT.out.1, by rw [List.map_append, HR.out.2.1, List.take_add_one, HQ.out.1]; rfl, HP.out⟩⟩
        case measure => simp [intOf]; omega
      · have HT : Hid (n < off ps (j + 1)) := Lib.hid (by
          rcases HQ.out.2.1 with ⟨_, c⟩ | ⟨c, _⟩
          · exact c
          · cases c)
        have HPB := Lib.hid (HR.out.2.2.step_bel hb1)
        clear hb1 HO e1
        go_wp2_with fail
        go_ret3
        exact ⟨_, j, 1, pr, by rw [HOO.out]; rfl, ⟨by omega, HR.out.1, .inr ⟨rfl, hjl, by rw [HOO.out]; omega, HT.out⟩⟩, HR.out.2.1, HPB.out⟩
end Tr
end Go.Proofs.YtkofcegdoilaeaaGreatDoor
namespace Go.Proofs.YtkofcegdoilaeaaGreatDoor
open Go.RowKit Go.MapKept Go.Maps
set_option linter.unusedVariables false
set_option linter.unusedSimpArgs false
namespace Tr
open Es Tl Rk
def evN : ByteArray := ⟨#[101, 118, 101, 110, 116, 115]⟩
def evD : ByteArray := ⟨#[101, 118, 101, 110, 116, 115, 46]⟩
/-- the name of a segment's file -/
def fN (k : Nat) : ByteArray := numT evD k
theorem evD_eq : evN ++ ⟨#[46]⟩ = evD := by decide
theorem fN_size (k : Nat) (hk : k < 100) : 1 ≤ (fN k).size ∧ (fN k).size ≤ 9 := by
  have h := numT_size evD k hk
  have e : evD.size = 7 := rfl
  refine ⟨?_, by unfold fN; omega⟩
  unfold fN numT
  rw [ByteArray.size_append]
  omega
set_option maxRecDepth 100000 in
set_option maxHeartbeats 2000000 in
theorem file_any (lb k : Nat) (w : World) (c1 : w.cell? ⟨lb, 1, none⟩ = some (.string evN)) (hk : k < 100) :
    Calls Tryz.prog 25 #[.pointer (some ⟨lb, 0, none⟩), .int .i64 k] w fun e w' => e = .returned (.string (fN k)) ∧ ∃ m, w' = w.drewN m := by
  have hd : (Lib.decDigits k).length ≤ 2 := dec_short ⟨k, hk⟩
  obtain ⟨nm, hnm⟩ : ∃ nm, evN = nm := ⟨_, rfl⟩
  have h6 : nm.size = 6 := by rw [← hnm]; rfl
  have hd2 : ¬ (9223372036854775807 < nm.size + 1) := by omega
  have hd3 : ¬ (9223372036854775807 < nm.size + 1 + (Lib.decDigits k).length) := by omega
  have HNM := Lib.hid hnm
  rw [hnm] at c1
  clear hnm h6
  have HI := Lib.hid (fun m => Tryz.strconv_Itoa_small k hk (w.drewN m))
  have HE : Hid (fN k = evD ++ ⟨(Lib.decDigits k).toArray⟩) := Lib.hid rfl
  go_enter Tryz.func25, Tryz.ntmps25
  go_wp2_with fail
  go_quiet ((go_at_call 42; exact Calls.quiet_of_same (HI.out _)))
  go_wp2_with fail
  go_ret
  exact ⟨by rw [HE.out, ← evD_eq, HNM.out]; rfl, _, rfl⟩
end Tr
end Go.Proofs.YtkofcegdoilaeaaGreatDoor
namespace Go.Proofs.YtkofcegdoilaeaaGreatDoor
open Go.RowKit Go.MapKept Go.Maps
set_option linter.unusedVariables false
set_option linter.unusedSimpArgs false
namespace Tr
open Es Tl Rk
set_option maxHeartbeats 2000000 in
theorem digs_any (s : ByteArray) (w : World) (h0 : 0 < s.size) (h1 : s.size ≤ 4) (hd : ∀ c ∈ s.data.toList, 48 ≤ c.toNat ∧ c.toNat ≤ 57) (hz : s.size = 1 ∨ s[0].toNat ≠ 48) :
    Calls Tryz.prog 40 #[.string s] w fun e w' => e = .returned (.bool true) ∧ w' = w := by
  have HD := Lib.hid hd
  have hE : s.toList.isEmpty = false := by rw [emptyB, decide_eq_false (by intro e; subst e; exact absurd h0 (by decide))]
  obtain ⟨c0, hc0⟩ : ∃ c0, s[0].toNat = c0 := ⟨_, rfl⟩
  rw [hc0] at hz
  have i0 : (0 : Int) < (s.size : Int) := by omega
  clear hd
  by_cases hc : c0 = 48
  · have t1 : ((c0 : Int) == 48) = true := by simp [hc]
    have hs1 : s.size = 1 := by omega
    have t2 : ¬ (1 : Int) < (s.size : Int) := by omega
    clear hc hz hs1
    go_enter Tryz.func40, Tryz.ntmps40
    go_wp2_with fail
    go_loop [18] (fun i => ∃ k : Nat, k ≤ s.size ∧ i = .int .i64 k) (fun i => s.size - (intOf i).toNat)
    case atStart => exact ⟨0, by omega, rfl⟩
    case round =>
      obtain ⟨k, hk, rfl⟩ := hrel
      by_cases hlt : k < s.size
      · obtain ⟨c, hc⟩ : ∃ c, s[k].toNat = c := ⟨_, rfl⟩
        have hcr := HD.out s[k] (mem_byte s k hlt)
        rw [hc] at hcr
        have hi1 : (k : Int) < (s.size : Int) := by omega
        have hi0 : (0 : Int) ≤ (k : Int) := by omega
        have d0 : ¬ ((c : Int) < 48) := by omega
        have d1 : ¬ ((57 : Int) < (c : Int)) := by omega
        clear hcr
        go_wp2_with fail
        go_round
        case rel => exact ⟨k + 1, by omega, by go_num⟩
        case measure => simp [intOf]; omega
      · have hi1 : ¬ (k : Int) < (s.size : Int) := by omega
        go_wp2_with fail
        go_ret
        exact ⟨rfl, rfl⟩
  · have t1 : ((c0 : Int) == 48) = false := by simp; omega
    clear hc hz
    go_enter Tryz.func40, Tryz.ntmps40
    go_wp2_with fail
    go_loop [18] (fun i => ∃ k : Nat, k ≤ s.size ∧ i = .int .i64 k) (fun i => s.size - (intOf i).toNat)
    case atStart => exact ⟨0, by omega, rfl⟩
    case round =>
      obtain ⟨k, hk, rfl⟩ := hrel
      by_cases hlt : k < s.size
      · obtain ⟨c, hc⟩ : ∃ c, s[k].toNat = c := ⟨_, rfl⟩
        have hcr := HD.out s[k] (mem_byte s k hlt)
        rw [hc] at hcr
        have hi1 : (k : Int) < (s.size : Int) := by omega
        have hi0 : (0 : Int) ≤ (k : Int) := by omega
        have d0 : ¬ ((c : Int) < 48) := by omega
        have d1 : ¬ ((57 : Int) < (c : Int)) := by omega
        clear hcr
        go_wp2_with fail
        go_round
        case rel => exact ⟨k + 1, by omega, by go_num⟩
        case measure => simp [intOf]; omega
      · have hi1 : ¬ (k : Int) < (s.size : Int) := by omega
        go_wp2_with fail
        go_ret
        exact ⟨rfl, rfl⟩
end Tr
end Go.Proofs.YtkofcegdoilaeaaGreatDoor
namespace Go.Proofs.YtkofcegdoilaeaaGreatDoor
open Go.RowKit Go.MapKept Go.Maps
set_option linter.unusedVariables false
set_option linter.unusedSimpArgs false
namespace Tr
open Es Tl Rk
/-- an entry in memory -/
def enC (e : Ev) : List Value := evC e ++ [.bool false]
theorem enLen (e : Ev) : (enC e).length = 9 := rfl
theorem enOne (e : Ev) : ∀ u ∈ enC e, u.oneCell' = true := fun u hu => by
  rcases List.mem_append.1 hu with h | h
  · exact evOne e u h
  · simp only [List.mem_cons, List.not_mem_nil, or_false] at h
    subst h; rfl
def enV (e : Ev) : Value := .agg #[.string e.src, .int .i64 e.num, .int .i64 e.at_, .int .i64 e.kind, .string e.per, .string e.item, .int .i64 e.val, .string e.txt, .bool false]
set_option maxRecDepth 100000 in
set_option maxHeartbeats 2000000 in
theorem seal_ev {e : Ev} (h : TaleEv e) (w : World) (hG : Glob w) :
    Calls Tryz.prog 36 #[enV e] w fun r w' => ∃ v, r = .returned v ∧ MkB w w' v (frB (encB e)) := by
  have hb0 : Below w.heap.size w (w.alloc (.cells (enC e).toArray 72)) := (Below.refl _ _).alloc (Nat.le_refl _) _
  have HE := Lib.hid (encode_any h (w.alloc (.cells (enC e).toArray 72)) (hG.bel hb0))
  have HB := Lib.hid hb0
  have HL := Lib.hid (enc_len (enc_ok h))
  clear h hG hb0
  unfold enV
  unfold evV enC evC at *
  go_enter Tryz.func36, Tryz.ntmps36
  go_wp2_with fail
  refine HE.out.mono ?_
  rintro r w1 ⟨v, rfl, hm⟩
  obtain ⟨vb, vc, rfl, _, _, hi⟩ := hm.read bLen (by decide)
  have hs := seal_any vb vc (encB e) w1 hi HL.out.2 _ rfl
  have HM := Lib.hid hm.bl
  obtain ⟨n, hn⟩ : ∃ n, (encB e).length = n := ⟨_, rfl⟩
  rw [hn] at hs ⊢
  have HS := Lib.hid hs
  clear hs hm hi hn HE
  go_wp2_with fail
  refine HS.out.mono ?_
  rintro r w2 ⟨v2, rfl, hm2⟩
  have HM2 := Lib.hid hm2
  clear hm2 HS
  go_wp2_with fail
  go_ret
  exact ⟨_, rfl, HM2.out.from (HB.out.trans (HM.out.mono HB.out.size))⟩
end Tr
end Go.Proofs.YtkofcegdoilaeaaGreatDoor
namespace Go.Proofs.YtkofcegdoilaeaaGreatDoor
open Go.RowKit Go.MapKept Go.Maps
set_option linter.unusedVariables false
set_option linter.unusedSimpArgs false
namespace Tr
open Es Tl Rk
/-- a journal's cells -/
def lgC (d files : Nat) (v : Value) (lasting : Nat) : List Value := [.pointer (some ⟨d, 0, none⟩), .string evN, .int .i64 5, .int .i64 files, v, .int .i64 lasting, .int .i64 0]
/-- a journal beside its disk -/
def Jr (w0 w : World) (d lb : Nat) (X : Dk) (files lasting : Nat) (es : List Ev) : Prop := ∃ v, Here KT w0 w [.disk d X, .box lb (lgC d files v lasting) 68, .row v 72 9 es.length (es.flatMap enC)]
theorem Jr.cells {w0 w : World} {d lb : Nat} {X : Dk} {files lasting : Nat} {es : List Ev} (h : Jr w0 w d lb X files lasting es) : ∃ b cap, es.length ≤ cap ∧ cap ≤ maxLen ∧ InW w b 9 (es.map enC) ∧ Bk w lb (lgC d files (.slice b es.length cap) lasting) 68 := by
  obtain ⟨v, h⟩ := h
  have h1 := h_boxAt (i := 1) h rfl
  have h2 := h_rowAt (i := 2) h rfl
  obtain ⟨b, cap, rfl, h3, h4, h5, _⟩ := inw_of_rowm enLen (by decide) h2
  exact ⟨b, cap, h3, h4, h5, h1⟩
set_option maxRecDepth 100000 in
set_option maxHeartbeats 1000000 in
theorem len_any {w0 w : World} {d lb : Nat} {X : Dk} {files lasting : Nat} {es : List Ev} (h : Jr w0 w d lb X files lasting es) (n : Nat) (hn : es.length = n) :
    Calls Tryz.prog 11 #[.pointer (some ⟨lb, 0, none⟩)] w fun e w' => e = .returned (.int .i64 n) ∧ w' = w := by
  obtain ⟨b, cap, _, _, _, hb⟩ := h.cells
  rw [hn] at hb
  have c4 : w.cell? ⟨lb, 4, none⟩ = some (.slice b n cap) := hb.cell 4
  clear h hb hn
  go_enter Tryz.func11, Tryz.ntmps11
  go_wp2_with fail
  go_ret
  exact ⟨rfl, rfl⟩
set_option maxRecDepth 100000 in
set_option maxHeartbeats 1000000 in
theorem lasting_any {w0 w : World} {d lb : Nat} {X : Dk} {files lasting : Nat} {es : List Ev} (h : Jr w0 w d lb X files lasting es) :
    Calls Tryz.prog 9 #[.pointer (some ⟨lb, 0, none⟩)] w fun e w' => e = .returned (.int .i64 lasting) ∧ w' = w := by
  obtain ⟨b, cap, _, _, _, hb⟩ := h.cells
  have c5 : w.cell? ⟨lb, 5, none⟩ = some (.int .i64 lasting) := hb.cell 5
  clear h hb
  go_enter Tryz.func9, Tryz.ntmps9
  go_wp2_with fail
  go_ret
  exact ⟨rfl, rfl⟩
end Tr
end Go.Proofs.YtkofcegdoilaeaaGreatDoor
namespace Go.Proofs.YtkofcegdoilaeaaGreatDoor
open Go.RowKit Go.MapKept Go.Maps
set_option linter.unusedVariables false
set_option linter.unusedSimpArgs false
namespace Tr
open Es Tl Rk
def iC (x : Nat) : List Value := [.int .i64 x]
theorem iLen (x : Nat) : (iC x).length = 1 := rfl
theorem iOne (x : Nat) : ∀ u ∈ iC x, u.oneCell' = true := fun u hu => by
  simp only [iC, List.mem_cons, List.not_mem_nil, or_false] at hu
  subst hu; rfl
/-- events read, and their offsets -/
def Got (w0 w : World) (u v : Value) (es : List Ev) (js : List Nat) : Prop := Here KT w0 w [.row u 60 8 es.length (es.flatMap evC), .row v 3 1 js.length (js.flatMap iC)]
theorem Got.nil (w : World) : Got w w (.slice none 0 0) (.slice none 0 0) [] [] := by
  have h := h_row (Here.nil (K := KT) (Below.refl w.heap.size w)) (e := 60) (v := .slice none 0 0) (sz := 8) (n := 0) (xs := []) (Below.refl _ _) ⟨rfl, .inl ⟨rfl, rfl⟩⟩ (fun b hb => by cases hb)
  exact h_row h (e := 3) (v := .slice none 0 0) (sz := 1) (n := 0) (xs := []) (Below.refl _ _) ⟨rfl, .inl ⟨rfl, rfl⟩⟩ (fun b hb => by cases hb)
theorem infoInt : (Tryz.prog.info? 3).map (fun i => (i.zero, i.size, i.bytes)) = some (some (.int .i64 0), 1, 8) := by kernel_rfl
set_option maxRecDepth 100000 in
set_option maxHeartbeats 4000000 in
theorem readall_any {w0 w : World} {d lb : Nat} {X : Dk} {files lasting : Nat} {es : List Ev} (h : Jr w0 w d lb X files lasting es) (m : Nat) (hm : es.length = m) (h60 : m ≤ 60) :
    Calls Tryz.prog 14 #[.pointer (some ⟨lb, 0, none⟩), .int .i64 0, .int .i64 1000] w fun e w' => ∃ u v, e = .returned (.tuple #[u, v, .int .i64 0]) ∧ Got w w' u v es (List.range m) := by
  obtain ⟨iE, hiE, hzE, hsE, hbE⟩ := tinfo infoEv
  obtain ⟨iI, hiI, hzI, hsI, hbI⟩ := tinfo infoInt
  obtain ⟨b, cap, hcap, _, hin, hb⟩ := h.cells
  rw [hm] at hb hcap
  have c4 : w.cell? ⟨lb, 4, none⟩ = some (.slice b m cap) := hb.cell 4
  have n0 : ¬ (m : Int) < 0 := by omega
  have r1 : IntKind.i64.wrap (m : Int) = (m : Int) := IntWalk.i64_in _ (by omega)
  have r2 : min (1000 : Int) (m : Int) = (m : Int) := by omega
  have e1 : (Instr.slice 66 (.slice b m cap) (some (.int .i64 0)) (some (.int .i64 m)) none).run Tryz.prog w = .ok (.slice b m cap) w := by
    have := run_slice_mid (P := Tryz.prog) w 66 72 b m cap 0 m 9 Tryz.underlying66 (by
      have : (Tryz.prog.info? 72).map (·.size) = some 9 := by kernel_rfl
      obtain ⟨i, h1, h2⟩ := Option.map_eq_some_iff.1 this
      exact ⟨i, h1, h2⟩) (Nat.zero_le _) hcap
    rw [subB_zero] at this
    exact this
  have HI := Lib.hid hin
  have HM := Lib.hid hm
  clear h hb hin hcap hm
  go_enter Tryz.func14, Tryz.ntmps14
  go_wp2_with fail
  go_loopw [9, 10, 47] (fun u v c wr => ∃ k : Nat, k ≤ m ∧ c = .int .i64 k ∧ Hid (Got w wr u v (es.take k) (List.range k))) (fun _ _ c _ => m - (intOf c).toNat)
  case atStart => exact ⟨0, by omega, rfl, Lib.hid (Got.nil w)⟩
  case round =>
    obtain ⟨k, hk, rfl, HG⟩ := hrel
    by_cases hlt : k < m
    · obtain ⟨x, hx⟩ : ∃ x, es[k]? = some x := ⟨es[k]'(by have := HM.out; omega), List.getElem?_eq_getElem _⟩
      obtain ⟨B, off, rfl, hB, hc⟩ := inw_row HI.out hx
      have hc := hc _ HG.out.bel
      have k0 : wr.cell? ⟨B, off + k * 9, none⟩ = some (.string x.src) := hc 0 _ rfl
      have k1 : wr.cell? ⟨B, off + k * 9 + 1, none⟩ = some (.int .i64 x.num) := hc 1 _ rfl
      have k2 : wr.cell? ⟨B, off + k * 9 + 2, none⟩ = some (.int .i64 x.at_) := hc 2 _ rfl
      have k3 : wr.cell? ⟨B, off + k * 9 + 3, none⟩ = some (.int .i64 x.kind) := hc 3 _ rfl
      have k4 : wr.cell? ⟨B, off + k * 9 + 4, none⟩ = some (.string x.per) := hc 4 _ rfl
      have k5 : wr.cell? ⟨B, off + k * 9 + 5, none⟩ = some (.string x.item) := hc 5 _ rfl
      have k6 : wr.cell? ⟨B, off + k * 9 + 6, none⟩ = some (.int .i64 x.val) := hc 6 _ rfl
      have k7 : wr.cell? ⟨B, off + k * 9 + 7, none⟩ = some (.string x.txt) := hc 7 _ rfl
      have k8 : wr.cell? ⟨B, off + k * 9 + 8, none⟩ = some (.bool false) := hc 8 _ rfl
      have HT : Hid (es.take (k + 1) = es.take k ++ [x]) := Lib.hid (by rw [List.take_add_one, hx]; rfl)
      have hi0 : (0 : Int) ≤ (k : Int) := by omega
      have hi1 : (k : Int) < (m : Int) := by omega
      have r3 : IntKind.i64.wrap (k : Int) = (k : Int) := IntWalk.i64_in _ (by omega)
      have HG2 := Lib.hid ((HG.out.step_bel ((Below.refl wr.heap.size wr).alloc (Nat.le_refl _) (.cells (enC x).toArray 72))).step_bel ((Below.refl _ _).alloc (Nat.le_refl _) (.cells (evC x).toArray 60)))
      have HROW := Lib.hid (h_rowAt (i := 0) HG2.out rfl)
      have HIN : Hid (InW ((wr.alloc (.cells (enC x).toArray 72)).alloc (.cells (evC x).toArray 60)) (some ⟨wr.heap.size + 1, 0, none⟩) 8 ([x].map evC)) := Lib.hid (inw_one (f := evC) (x := x) (bk_at _ _ (by simp)))
      have HLN : Hid ((es.take k).length + [x].length ≤ 1000000) := Lib.hid (by rw [List.length_take]; simp; omega)
      clear hc hx
      go_upto_region 11 with (at_builtin; refine wpList_append_m evLen evOne _ rfl _ _ _ rfl 60 iE _ 96 Tryz.underlying23 hiE hzE hsE hbE rfl (by decide) (by omega) u9 (es.take k) [x] rfl HROW.out (some ⟨wr.heap.size + 1, 0, none⟩) 1 1 rfl rfl HIN.out HLN.out ?_; intro v5 w5 o5 f5 h5)
      have HG5 := Lib.hid (n_more HG2.out (i := 0) rfl o5 f5 h5)
      clear o5 f5 h5 HROW HIN HLN HG2
      have HG6 := Lib.hid (HG5.out.step_bel ((Below.refl w5.heap.size w5).alloc (Nat.le_refl _) (.cells #[.int .i64 (k : Int)] 3)))
      have HROW := Lib.hid (h_rowAt (i := 1) HG6.out rfl)
      have HIN : Hid (InW (w5.alloc (.cells #[.int .i64 (k : Int)] 3)) (some ⟨w5.heap.size, 0, none⟩) 1 ([k].map iC)) := Lib.hid (inw_one (f := iC) (x := k) (Bk.new w5 (iC k) 3))
      have HLN : Hid ((List.range k).length + [k].length ≤ 1000000) := Lib.hid (by simp; omega)
      clear HG5
      go_wp2_with (at_builtin; refine wpList_append_m iLen iOne _ rfl _ _ _ rfl 3 iI _ 8 Tryz.underlying45 hiI hzI hsI hbI rfl (by decide) (by omega) u10 (List.range k) [k] rfl HROW.out (some ⟨w5.heap.size, 0, none⟩) 1 1 rfl rfl HIN.out HLN.out ?_; intro v6 w6 o6 f6 h6)
      have HG7 := Lib.hid (n_more HG6.out (i := 1) rfl o6 f6 h6)
      clear o6 f6 h6 HROW HIN HLN HG6
      go_wp2_with fail
      go_roundw
      case rel => exact ⟨k + 1, by omega, by go_num, Lib.hid (by rw [HT.out, List.range_succ]; exact HG7.out)⟩
      case measure => simp [intOf]; omega
    · have hkm : k = m := by omega
      have HE : Hid (es.take k = es ∧ List.range k = List.range m) := Lib.hid ⟨List.take_of_length_le (by have := HM.out; omega), by rw [hkm]⟩
      have hi1 : ¬ (k : Int) < (m : Int) := by omega
      have HG1 := HG.out
      rw [HE.out.1, HE.out.2] at HG1
      have HG2 := Lib.hid HG1
      clear HG1 hkm
      go_wp2_with fail
      go_ret3
      exact ⟨_, _, rfl, HG2.out⟩
end Tr
end Go.Proofs.YtkofcegdoilaeaaGreatDoor
namespace Go.Proofs.YtkofcegdoilaeaaGreatDoor
open Go.RowKit Go.ChangeShapes Go.WideShapes
set_option linter.unusedVariables false
set_option linter.unusedSimpArgs false
namespace Tl
open Es Rk
theorem fieldsEv : Tryz.prog.underlying 60 = some (.struct (Tryz.prog.fieldsOf 60)) := by kernel_rfl
theorem heldEv : Tryz.prog.stoodInHeld 60 = false := by kernel_rfl
theorem fieldsEvM : (Tryz.prog.fieldsOf 60).toList.map (fun f => (f.name == "_", f.type, f.offset)) = [(false, 9, 0), (false, 3, 1), (false, 3, 2), (false, 58, 3), (false, 9, 4), (false, 9, 5), (false, 3, 6), (false, 9, 7)] := by kernel_rfl
theorem fieldsEvL : ∃ f1 f2 f3 f4 f5 f6 f7 f8 : Field, (Tryz.prog.fieldsOf 60).toList = [f1, f2, f3, f4, f5, f6, f7, f8] ∧ ((f1.name == "_") = false ∧ f1.type = 9 ∧ f1.offset = 0) ∧ ((f2.name == "_") = false ∧ f2.type = 3 ∧ f2.offset = 1) ∧ ((f3.name == "_") = false ∧ f3.type = 3 ∧ f3.offset = 2) ∧ ((f4.name == "_") = false ∧ f4.type = 58 ∧ f4.offset = 3) ∧ ((f5.name == "_") = false ∧ f5.type = 9 ∧ f5.offset = 4) ∧ ((f6.name == "_") = false ∧ f6.type = 9 ∧ f6.offset = 5) ∧ ((f7.name == "_") = false ∧ f7.type = 3 ∧ f7.offset = 6) ∧ ((f8.name == "_") = false ∧ f8.type = 9 ∧ f8.offset = 7) := by
  have h := fieldsEvM
  generalize (Tryz.prog.fieldsOf 60).toList = l at h
  have hl := congrArg List.length h
  rw [List.length_map] at hl
  simp only [List.length_cons, List.length_nil] at hl
  match l, hl, h with
  | [f1, f2, f3, f4, f5, f6, f7, f8], _, h =>
    simp only [List.map_cons, List.map_nil, List.cons.injEq, Prod.mk.injEq, and_true] at h
    exact ⟨f1, f2, f3, f4, f5, f6, f7, f8, rfl, h⟩
theorem neq_same (e : Ev) (W : World) : (binOp BinOp.neq 60 (evV e) (evV e)).run Tryz.prog W = .ok (.bool false) W := by
  obtain ⟨f1, f2, f3, f4, f5, f6, f7, f8, h0, ⟨n1, t1, o1⟩, ⟨n2, t2, o2⟩, ⟨n3, t3, o3⟩, ⟨n4, t4, o4⟩, ⟨n5, t5, o5⟩, ⟨n6, t6, o6⟩, ⟨n7, t7, o7⟩, ⟨n8, t8, o8⟩⟩ := fieldsEvL
  obtain ⟨v1, v2, v3, v4, v5, v6, v7, v8⟩ := e
  unfold evV
  rw [run_neq_struct, run_equalIn_agg _ _ _ _ _ fieldsEv heldEv, h0]
  have m1 : f1.name ≠ "_" := by simpa using n1
  have p1 : (part f1.type #[.string v1, .int .i64 v2, .int .i64 v3, .int .i64 v4, .string v5, .string v6, .int .i64 v7, .string v8] f1.offset).run Tryz.prog W = .ok (.string v1) W := by rw [t1, o1]; kernel_rfl
  have q1 := run_equalIn_string (P := Tryz.prog) W 9998 f1.type v1 v1 (by rw [t1]; exact Tryz.underlying9)
  rw [beq_self_eq_true] at q1
  have m2 : f2.name ≠ "_" := by simpa using n2
  have p2 : (part f2.type #[.string v1, .int .i64 v2, .int .i64 v3, .int .i64 v4, .string v5, .string v6, .int .i64 v7, .string v8] f2.offset).run Tryz.prog W = .ok (.int .i64 v2) W := by rw [t2, o2]; kernel_rfl
  have q2 := run_equalIn_int (P := Tryz.prog) W 9998 f2.type .i64 .i64 v2 v2 (by rw [t2]; exact Tryz.underlying3)
  rw [beq_self_eq_true] at q2
  have m3 : f3.name ≠ "_" := by simpa using n3
  have p3 : (part f3.type #[.string v1, .int .i64 v2, .int .i64 v3, .int .i64 v4, .string v5, .string v6, .int .i64 v7, .string v8] f3.offset).run Tryz.prog W = .ok (.int .i64 v3) W := by rw [t3, o3]; kernel_rfl
  have q3 := run_equalIn_int (P := Tryz.prog) W 9998 f3.type .i64 .i64 v3 v3 (by rw [t3]; exact Tryz.underlying3)
  rw [beq_self_eq_true] at q3
  have m4 : f4.name ≠ "_" := by simpa using n4
  have p4 : (part f4.type #[.string v1, .int .i64 v2, .int .i64 v3, .int .i64 v4, .string v5, .string v6, .int .i64 v7, .string v8] f4.offset).run Tryz.prog W = .ok (.int .i64 v4) W := by rw [t4, o4]; kernel_rfl
  have q4 := run_equalIn_int (P := Tryz.prog) W 9998 f4.type .i64 .i64 v4 v4 (by rw [t4]; exact Tryz.underlying58)
  rw [beq_self_eq_true] at q4
  have m5 : f5.name ≠ "_" := by simpa using n5
  have p5 : (part f5.type #[.string v1, .int .i64 v2, .int .i64 v3, .int .i64 v4, .string v5, .string v6, .int .i64 v7, .string v8] f5.offset).run Tryz.prog W = .ok (.string v5) W := by rw [t5, o5]; kernel_rfl
  have q5 := run_equalIn_string (P := Tryz.prog) W 9998 f5.type v5 v5 (by rw [t5]; exact Tryz.underlying9)
  rw [beq_self_eq_true] at q5
  have m6 : f6.name ≠ "_" := by simpa using n6
  have p6 : (part f6.type #[.string v1, .int .i64 v2, .int .i64 v3, .int .i64 v4, .string v5, .string v6, .int .i64 v7, .string v8] f6.offset).run Tryz.prog W = .ok (.string v6) W := by rw [t6, o6]; kernel_rfl
  have q6 := run_equalIn_string (P := Tryz.prog) W 9998 f6.type v6 v6 (by rw [t6]; exact Tryz.underlying9)
  rw [beq_self_eq_true] at q6
  have m7 : f7.name ≠ "_" := by simpa using n7
  have p7 : (part f7.type #[.string v1, .int .i64 v2, .int .i64 v3, .int .i64 v4, .string v5, .string v6, .int .i64 v7, .string v8] f7.offset).run Tryz.prog W = .ok (.int .i64 v7) W := by rw [t7, o7]; kernel_rfl
  have q7 := run_equalIn_int (P := Tryz.prog) W 9998 f7.type .i64 .i64 v7 v7 (by rw [t7]; exact Tryz.underlying3)
  rw [beq_self_eq_true] at q7
  have m8 : f8.name ≠ "_" := by simpa using n8
  have p8 : (part f8.type #[.string v1, .int .i64 v2, .int .i64 v3, .int .i64 v4, .string v5, .string v6, .int .i64 v7, .string v8] f8.offset).run Tryz.prog W = .ok (.string v8) W := by rw [t8, o8]; kernel_rfl
  have q8 := run_equalIn_string (P := Tryz.prog) W 9998 f8.type v8 v8 (by rw [t8]; exact Tryz.underlying9)
  rw [beq_self_eq_true] at q8
  simp only [Op.eqFields, if_pos m1, p1, if_pos m2, p2, if_pos m3, p3, if_pos m4, p4, if_pos m5, p5, if_pos m6, p6, if_pos m7, p7, if_pos m8, p8, q1, q2, q3, q4, q5, q6, q7, q8, Sem.run_bind, Result.andThen_ok, Sem.run_ite, Bool.not_true, Bool.false_eq_true, if_false, Nat.reduceAdd] at q1 q2 q3 q4 q5 q6 q7 q8 ⊢
  rfl
set_option maxHeartbeats 4000000 in
theorem same_eq (b1 b2 : Option Addr) (n cap1 cap2 : Nat) (l : List Ev) (w : World) (h1 : InW w b1 8 (l.map evC)) (h2 : InW w b2 8 (l.map evC)) (hn : n = l.length) (hs : n < 60) :
    Calls Tryz.prog 15 #[.slice b1 n cap1, .slice b2 n cap2] w fun e w' => e = .returned (.bool true) ∧ Below w.heap.size w w' := by
  have H := Lib.hid (And.intro h1 (And.intro h2 hn))
  clear h1 h2 hn
  go_enter Tryz.func15, Tryz.ntmps15
  go_wp2_with fail
  go_loopw [13] (fun c wr => ∃ k q : Nat, k ≤ n ∧ c = .int .i64 k ∧ wr = w.drewN q) (fun c _ => n - (intOf c).toNat)
  case atStart => exact ⟨0, 0, by omega, rfl, rfl⟩
  case round =>
    obtain ⟨k, q, hk, rfl, rfl⟩ := hrel
    by_cases hlt : k < n
    · obtain ⟨x, hx⟩ : ∃ x, l[k]? = some x := ⟨l[k]'(by have := H.out.2.2; omega), List.getElem?_eq_getElem _⟩
      obtain ⟨B1, o1, rfl, _, c1⟩ := inw_row H.out.1 hx
      obtain ⟨B2, o2, rfl, _, c2⟩ := inw_row H.out.2.1 hx
      have k0 : w.cell? ⟨B1, o1 + k * 8, none⟩ = some (.string x.src) := c1 w (Below.refl _ _) 0 _ rfl
      have k1 : w.cell? ⟨B1, o1 + k * 8 + 1, none⟩ = some (.int .i64 x.num) := c1 w (Below.refl _ _) 1 _ rfl
      have k2 : w.cell? ⟨B1, o1 + k * 8 + 2, none⟩ = some (.int .i64 x.at_) := c1 w (Below.refl _ _) 2 _ rfl
      have k3 : w.cell? ⟨B1, o1 + k * 8 + 3, none⟩ = some (.int .i64 x.kind) := c1 w (Below.refl _ _) 3 _ rfl
      have k4 : w.cell? ⟨B1, o1 + k * 8 + 4, none⟩ = some (.string x.per) := c1 w (Below.refl _ _) 4 _ rfl
      have k5 : w.cell? ⟨B1, o1 + k * 8 + 5, none⟩ = some (.string x.item) := c1 w (Below.refl _ _) 5 _ rfl
      have k6 : w.cell? ⟨B1, o1 + k * 8 + 6, none⟩ = some (.int .i64 x.val) := c1 w (Below.refl _ _) 6 _ rfl
      have k7 : w.cell? ⟨B1, o1 + k * 8 + 7, none⟩ = some (.string x.txt) := c1 w (Below.refl _ _) 7 _ rfl
      have m0 : w.cell? ⟨B2, o2 + k * 8, none⟩ = some (.string x.src) := c2 w (Below.refl _ _) 0 _ rfl
      have m1 : w.cell? ⟨B2, o2 + k * 8 + 1, none⟩ = some (.int .i64 x.num) := c2 w (Below.refl _ _) 1 _ rfl
      have m2 : w.cell? ⟨B2, o2 + k * 8 + 2, none⟩ = some (.int .i64 x.at_) := c2 w (Below.refl _ _) 2 _ rfl
      have m3 : w.cell? ⟨B2, o2 + k * 8 + 3, none⟩ = some (.int .i64 x.kind) := c2 w (Below.refl _ _) 3 _ rfl
      have m4 : w.cell? ⟨B2, o2 + k * 8 + 4, none⟩ = some (.string x.per) := c2 w (Below.refl _ _) 4 _ rfl
      have m5 : w.cell? ⟨B2, o2 + k * 8 + 5, none⟩ = some (.string x.item) := c2 w (Below.refl _ _) 5 _ rfl
      have m6 : w.cell? ⟨B2, o2 + k * 8 + 6, none⟩ = some (.int .i64 x.val) := c2 w (Below.refl _ _) 6 _ rfl
      have m7 : w.cell? ⟨B2, o2 + k * 8 + 7, none⟩ = some (.string x.txt) := c2 w (Below.refl _ _) 7 _ rfl
      have hq := neq_same x
      unfold evV at hq
      have hk0 : (0 : Int) ≤ (k : Int) := by omega
      have hk1 : (k : Int) < (n : Int) := by omega
      clear c1 c2 hx
      go_wp2_with fail
      go_quiet (fail)
      go_wp2_with fail
      go_roundw
      case rel => exact ⟨k + 1, q + nq, by omega, by go_num, rfl⟩
      case measure => simp [intOf]; omega
    · go_wp2_with fail
      go_ret
      exact ⟨rfl, bdrewN (Below.refl _ _) q⟩
end Tl
end Go.Proofs.YtkofcegdoilaeaaGreatDoor
namespace Go.Proofs.YtkofcegdoilaeaaGreatDoor
open Go.RowKit Go.MapKept Go.Maps
set_option linter.unusedVariables false
set_option linter.unusedSimpArgs false
namespace Tr
open Es Tl Rk
/-- a journal beside its disk and other things -/
def Jx (w0 w : World) (d lb : Nat) (X : Dk) (files lasting : Nat) (es : List Ev) (us : List Ob) : Prop := ∃ v, Here KT w0 w (.disk d X :: .box lb (lgC d files v lasting) 68 :: .row v 72 9 es.length (es.flatMap enC) :: us)
section
variable {w0 w w' : World} {d lb : Nat} {X : Dk} {files lasting : Nat} {es : List Ev} {us : List Ob}
theorem Jx.toJr (h : Jx w0 w d lb X files lasting es us) : Jr w0 w d lb X files lasting es := by
  obtain ⟨v, h⟩ := h
  exact ⟨v, Here.init (os := [_, _, _]) h⟩
theorem Jx.of (h : Jr w0 w d lb X files lasting es) : Jx w0 w d lb X files lasting es [] := h
theorem Jx.init (h : Jx w0 w d lb X files lasting es us) : Below w0.heap.size w0 w := h.choose_spec.bel
theorem Jx.bel (h : Jx w0 w d lb X files lasting es us) (hb : Below w.heap.size w w') : Jx w0 w' d lb X files lasting es us := by
  obtain ⟨v, h⟩ := h
  exact ⟨v, h.step_bel hb⟩
theorem Jx.drewN (h : Jx w0 w d lb X files lasting es us) (m : Nat) : Jx w0 (w.drewN m) d lb X files lasting es us := h.bel (bdrewN (Below.refl _ _) m)
theorem Jx.ok (h : Jx w0 w d lb X files lasting es us) : DkOk X := by
  obtain ⟨v, h⟩ := h
  exact h_ok h (i := 0) rfl
theorem Jx.box (h : Jx w0 w d lb X files lasting es us) : ∃ v, Bk w lb (lgC d files v lasting) 68 := by
  obtain ⟨v, h⟩ := h
  exact ⟨v, h_boxAt (i := 1) h rfl⟩
theorem Jx.cells (h : Jx w0 w d lb X files lasting es us) : ∃ b cap, es.length ≤ cap ∧ cap ≤ maxLen ∧ InW w b 9 (es.map enC) ∧ Bk w lb (lgC d files (.slice b es.length cap) lasting) 68 := h.toJr.cells
/-- the log's cell of lasting is stored to -/
theorem Jx.last (h : Jx w0 w d lb X files lasting es us) (n : Nat) : Jx w0 (w.setCell ⟨lb, 5, none⟩ (.int .i64 n)) d lb X files n es us := by
  obtain ⟨v, h⟩ := h
  exact ⟨v, n_set h (i := 1) rfl 5 (.int .i64 n)⟩
theorem Jx.setFiles (h : Jx w0 w d lb X files lasting es us) (n : Nat) : Jx w0 (w.setCell ⟨lb, 3, none⟩ (.int .i64 n)) d lb X n lasting es us := by
  obtain ⟨v, h⟩ := h
  exact ⟨v, n_set h (i := 1) rfl 3 (.int .i64 n)⟩
/-- one thing more -/
theorem Jx.more_box (h : Jx w0 w d lb X files lasting es us) (cs : List Value) (t : TypeId) : Jx w0 (w.alloc (.cells cs.toArray t)) d lb X files lasting es (us ++ [.box w.heap.size cs t]) := by
  obtain ⟨v, h⟩ := h
  exact ⟨v, h_box h cs t⟩
theorem Jx.boxAt (h : Jx w0 w d lb X files lasting es us) {i b : Nat} {cs : List Value} {t : TypeId} (hi : us[i]? = some (.box b cs t)) : Bk w b cs t := by
  obtain ⟨v, h⟩ := h
  exact h_boxAt (i := i + 3) h (by simpa using hi)
theorem Jx.ext {vs : List Ob} (h : Jx w0 w d lb X files lasting es (us ++ vs)) : Jx w0 w d lb X files lasting es us := by
  obtain ⟨v, h⟩ := h
  exact ⟨v, Here.init (os := _ :: _ :: _ :: us) h⟩
/-- a file is synced -/
theorem jr_sync (h : Jx w0 w d lb X files lasting es us) (n : ByteArray) (hn : n.size ≤ 1000) :
    Calls Tryz.prog 28 #[.pointer (some ⟨d, 0, none⟩), .string n] w fun e w' => e = .returned (.int .i64 (stepS X n).2) ∧ Jx w0 w' d lb (stepS X n).1 files lasting es us := by
  obtain ⟨v, h⟩ := h
  refine (h_sync h (i := 0) rfl n hn).mono ?_
  rintro e w' ⟨rfl, k⟩
  exact ⟨rfl, v, k⟩
/-- bytes are put behind a file's -/
theorem jr_append (h : Jx w0 w d lb X files lasting es us) (hb : Below w.heap.size w w') (n s : ByteArray) (sb : Option Addr) (cap : Nat) (hn : n.size ≤ 1000) (hs : ByIn w' sb s) (hsb : ∀ k o, sb = some ⟨k, o, none⟩ → w.heap.size ≤ k) (hsz : s.size ≤ 5000000) (ln : Nat) (hln : ln = s.size) :
    Calls Tryz.prog 35 #[.pointer (some ⟨d, 0, none⟩), .string n, .slice sb ln cap] w' fun e w'' => e = .returned (.int .i64 (stepA X n s).2) ∧ Jx w0 w'' d lb (stepA X n s).1 files lasting es us := by
  obtain ⟨v, h⟩ := h
  refine (h_append h (i := 0) rfl hb n s sb cap hn hs hsb hsz ln hln).mono ?_
  rintro e w' ⟨rfl, k⟩
  exact ⟨rfl, v, k⟩
end
end Tr
end Go.Proofs.YtkofcegdoilaeaaGreatDoor

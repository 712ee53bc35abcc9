/- journal: load. journal: find. -/
import Derived.Test.YtkofcegdoilaeaaGreatDoorPk15
import Derived.ScopeJumps
namespace Go.Proofs.YtkofcegdoilaeaaGreatDoor
open Go.RowKit Go.MapKept Go.Maps
set_option linter.unusedVariables false
set_option linter.unusedSimpArgs false
namespace Tr
open Es Tl Rk
/-- the scratch slots of load -/
structure Scr where
  u13 : Value
  u14 : Value
  u15 : Value
  u16 : Value
  u17 : Value
  u18 : Value
  u19 : Value
  u20 : Value
  u21 : Value
  u22 : Value
  u23 : Value
  u24 : Value
  u25 : Value
  u26 : Value
  u27 : Value
  u28 : Value
  u29 : Value
  u30 : Value
  u31 : Value
  u32 : Value
  u33 : Value
  u34 : Value
  u35 : Value
  u36 : Value
  u37 : Value
  u38 : Value
  u39 : Value
  u40 : Value
  u41 : Value
  u42 : Value
  u43 : Value
  u44 : Value
  u45 : Value
  u46 : Value
  u47 : Value
  u48 : Value
  u49 : Value
  u50 : Value
  u51 : Value
  u52 : Value
  u53 : Value
  u54 : Value
  u55 : Value
  u56 : Value
  u57 : Value
  u58 : Value
  u59 : Value
  u60 : Value
  u61 : Value
  u62 : Value
  u63 : Value
  u64 : Value
  u65 : Value
  u66 : Value
  u67 : Value
  u68 : Value
  u69 : Value
  u70 : Value
  u71 : Value
  u72 : Value
  u73 : Value
  u74 : Value
  u75 : Value
  u76 : Value
  u77 : Value
  u78 : Value
  u79 : Value
  u80 : Value
  u81 : Value
  u82 : Value
  u83 : Value
  u84 : Value
  u85 : Value
  u86 : Value
  u87 : Value
  u88 : Value
  u89 : Value
  u90 : Value
  u91 : Value
  u92 : Value
  u93 : Value
  u94 : Value
theorem cat_len : ∀ (ps : List Bs), (∀ p ∈ ps, p.length ≤ 200) → (cat ps).length ≤ 210 * ps.length
  | [], _ => by simp [cat]
  | p :: ps, h => by
    have h1 := cat_len ps (fun q hq => h q (List.mem_cons_of_mem _ hq))
    have h2 := h p (by simp)
    rw [cat_cons, List.length_append, fr_len, List.length_cons]
    omega
theorem what_joins {Ob : Type} {K : Kind Ob} {w0 w w' : World} {os us : List Ob} (h : Here K w0 w os) (g : Here K w w' us) : Here K w0 w' (os ++ us) := by
  have hz := h.bel.size
  obtain ⟨Bs0, h10, h22⟩ := h.ex
  obtain ⟨Cs, g1, g2⟩ := g.ex
  have hone : ∀ i o, (os ++ us)[i]? = some o → (i < os.length ∧ os[i]? = some o) ∨ (¬ i < os.length ∧ us[i - os.length]? = some o) := fun i o hi => by
    rw [List.getElem?_append] at hi
    by_cases e : i < os.length
    · rw [if_pos e] at hi; exact .inl ⟨e, hi⟩
    · rw [if_neg e] at hi; exact .inr ⟨e, hi⟩
  refine ⟨(h.step_bel g.bel).bel, fun i => if i < os.length then Bs0 i else Cs (i - os.length), fun i o hi => ?_, fun i j oi oj hij hi hj => ?_⟩
  · dsimp only
    rcases hone i o hi with ⟨e, hi⟩ | ⟨e, hi⟩
    · rw [if_pos e]
      exact ⟨K.fr (h10 i o hi).1 (Fr.of_bel (S := none') g.bel) (fun _ _ => id), (h10 i o hi).2⟩
    · rw [if_neg e]
      exact ⟨(g1 _ o hi).1, fun b hb => Nat.le_trans hz ((g1 _ o hi).2 b hb)⟩
  · dsimp only
    rcases hone i oi hi with ⟨ei, hi⟩ | ⟨ei, hi⟩
    · rcases hone j oj hj with ⟨ej, hj⟩ | ⟨ej, hj⟩
      · rw [if_pos ei, if_pos ej]
        exact h22 i j oi oj hij hi hj
      · rw [if_pos ei, if_neg ej]
        exact fun b hb hc => by have := K.lt (h10 i oi hi).1 b hb; have := (g1 _ oj hj).2 b hc; omega
    · rcases hone j oj hj with ⟨ej, hj⟩ | ⟨ej, hj⟩
      · rw [if_neg ei, if_pos ej]
        exact fun b hb hc => by have := K.lt (h10 j oj hj).1 b hc; have := (g1 _ oi hi).2 b hb; omega
      · rw [if_neg ei, if_neg ej]
        exact g2 _ _ oi oj (fun e => hij (by omega)) hi hj
section
variable {w0 w w' : World} {d lb : Nat} {X : Dk} {files la : Nat} {es : List Ev} {us : List Ob} {sg : List Ev} {t j : Nat} {pr : List (Sl × Bs)} {ub : Option Addr} {pl uc o : Nat} {st : Int} {k : Nat}
/-- k payloads of a segment are taken -/
def LdAt (w0 w : World) (d lb : Nat) (X : Dk) (files la : Nat) (es : List Ev) (us : List Ob) (sg : List Ev) (t j : Nat) (pr : List (Sl × Bs)) (ub : Option Addr) (pl uc o : Nat) (st : Int) (k : Nat) : Prop :=
  Cut (sg.map encB) t j st ∧ o = off (sg.map encB) j ∧ pr.map Prod.snd = (sg.map encB).take j ∧ pl = pr.length ∧ k ≤ pl ∧ Jx w0 w d lb X files la (es ++ sg.take k) (us ++ (Ob.row (.slice ub pl uc) 22 1 pl ((pr.map Prod.fst).flatMap slC) :: rowsOf pr))
theorem LdAt.len (h : LdAt w0 w d lb X files la es us sg t j pr ub pl uc o st k) : pl = j ∧ pl ≤ sg.length := by
  obtain ⟨h1, _, h3, h4, _⟩ := h
  have e := congrArg List.length h3
  rw [List.length_map, List.length_take, List.length_map] at e
  have := h1.le
  rw [List.length_map] at this
  omega
theorem LdAt.begin (h : Jx w0 w d lb X files la es us) {u : Value} (hc : Cut (sg.map encB) t j st) (hp : pr.map Prod.snd = (sg.map encB).take j) (hP : PayAt w w' u pr) : ∃ ub uc, u = .slice ub pr.length uc ∧ LdAt w0 w' d lb X files la es us sg t j pr ub pr.length uc (off (sg.map encB) j) st 0 := by
  obtain ⟨ub, uc, hu, _, _, _, _⟩ := inw_of_rowm slLen (by decide) hP.row
  rw [List.length_map] at hu
  refine ⟨ub, uc, hu, hc, rfl, hp, rfl, Nat.zero_le _, ?_⟩
  rw [List.take_zero, List.append_nil]
  obtain ⟨v, h⟩ := h
  unfold PayAt at hP
  rw [List.length_map, hu] at hP
  exact ⟨v, what_joins h hP⟩
theorem LdAt.step (h : LdAt w0 w d lb X files la es us sg t j pr ub pl uc o st k) (hk : k < pl) : ∃ e bb cc B of, sg[k]? = some e ∧ ub = some ⟨B, of, none⟩ ∧ (∀ W, Below w.heap.size w W → W.cell? ⟨B, of + k, none⟩ = some (.slice bb (encB e).length cc)) ∧ BIn w bb (encB e) ∧ (encB e).length ≤ cc := by
  have hlen := h.len
  obtain ⟨h1, _, h3, h4, _, v, h5⟩ := h
  obtain ⟨q, hq⟩ : ∃ q, pr[k]? = some q := ⟨pr[k]'(by omega), List.getElem?_eq_getElem _⟩
  obtain ⟨e, he⟩ : ∃ e, sg[k]? = some e := ⟨sg[k]'(by omega), List.getElem?_eq_getElem _⟩
  have hqe : q.2 = encB e := by
    have e1 := congrArg (fun l => l[k]?) h3
    simp only [List.getElem?_map, hq, List.getElem?_take, he] at e1
    rw [if_pos (by omega)] at e1
    simpa using e1
  have r1 : w.ownsRow 0 22 1 (.slice ub pl uc) pl ((pr.map Prod.fst).flatMap slC) := h_rowAt (i := us.length + 3) h5 (by simp)
  have r2 : w.ownsRow 0 5 1 (slV q.1) q.2.length (q.2.flatMap bC) := h_rowAt (i := us.length + 1 + k + 3) h5 (by
    have : (rowsOf pr)[k]? = some (Ob.row (slV q.1) 5 1 q.2.length (q.2.flatMap bC)) := by unfold rowsOf; rw [List.getElem?_map, hq]; rfl
    simp only [List.getElem?_cons_succ]
    rw [List.getElem?_append_right (by omega), show us.length + 1 + k - us.length = k + 1 by omega, List.getElem?_cons_succ]
    exact this)
  obtain ⟨b1, c1, hv1, _, _, i1, _⟩ := inw_of_rowm slLen (by decide) r1
  obtain ⟨bb, cc, hv2, hcc, _, i2, _⟩ := inw_of_rowm bLen (by decide) r2
  have hb1 : ub = b1 := by simp only [Value.slice.injEq] at hv1; exact hv1.1
  subst hb1
  obtain ⟨B, of, hb, _, hc⟩ := inw_row (x := q.1) i1 (by rw [List.getElem?_map, hq]; rfl)
  refine ⟨e, bb, cc, B, of, he, hb, fun W hW => ?_, by rw [← hqe]; exact i2, by rw [← hqe]; exact hcc⟩
  have := hc W hW 0 (slV q.1) rfl
  rw [Nat.mul_one, Nat.add_zero] at this
  rw [this, hv2, hqe]
theorem LdAt.next (h : LdAt w0 w d lb X files la es us sg t j pr ub pl uc o st k) (hk : k < pl) {e : Ev} (he : sg[k]? = some e) (hJ : Jx w0 w' d lb X files la ((es ++ sg.take k) ++ [e]) (us ++ (Ob.row (.slice ub pl uc) 22 1 pl ((pr.map Prod.fst).flatMap slC) :: rowsOf pr))) : LdAt w0 w' d lb X files la es us sg t j pr ub pl uc o st (k + 1) := by
  obtain ⟨h1, h2, h3, h4, _, _⟩ := h
  refine ⟨h1, h2, h3, h4, hk, ?_⟩
  rw [List.take_add_one, he, ← List.append_assoc]
  exact hJ
theorem LdAt.fin (h : LdAt w0 w d lb X files la es us sg t j pr ub pl uc o st k) (hk : k = pl) : Cut (sg.map encB) t j st ∧ o = off (sg.map encB) j ∧ Jx w0 w d lb X files la (es ++ sg.take j) us := by
  have hlen := h.len
  obtain ⟨h1, h2, h3, h4, _, h5⟩ := h
  have : k = j := by omega
  rw [this] at h5
  exact ⟨h1, h2, h5.ext⟩
end
theorem finL {fn : Func} {tmps : Array Value} {w : World} (h : fn.results = #[.tmp 6, .tmp 7, .tmp 8]) : (results fn tmps).run Tryz.prog w = .ok (.tuple #[tmps.getD 6 undef, tmps.getD 7 undef, tmps.getD 8 undef]) w := by
  simp [results, h, Result.andThen]
theorem jump_ret' {l : Nat} {J : Act → World → Prop} {Q : Exit → Act → World → Prop} {a : Act} {w : World} (h : Q .ret a w) : Exit.jump l J Q .ret a w := h
set_option maxRecDepth 100000 in
set_option maxHeartbeats 16000000 in
theorem load_any {w0 w : World} {d lb : Nat} {X : Dk} {files la : Nat} {es : List Ev} {us : List Ob} (h : Jx w0 w d lb X files la es us) (sg : List Ev) (hsg : sg.length ≤ 5) (hT : ∀ e ∈ sg, TaleEv e) (hG : Glob w0) (hl : es.length < 60) {b : Option Addr} {cap n t : Nat} (hX : BIn w b ((cat (sg.map encB)).take t)) (ht : t ≤ (cat (sg.map encB)).length) (hn : n = t) (hc : n ≤ cap) (last : Bool) (hlast : last = false → t = (cat (sg.map encB)).length ∧ sg.length = 5) :
    Calls Tryz.prog 26 #[.pointer (some ⟨lb, 0, none⟩), .slice b n cap, .bool last] w fun r w' => ∃ (j : Nat) (st : Int), r = .returned (.tuple #[.int .i64 (off (sg.map encB) j : Nat), .int .i64 st, .int .i64 0]) ∧ Cut (sg.map encB) t j st ∧ Jx w0 w' d lb X files la (es ++ sg.take j) us := by
  obtain ⟨iN, hiN, hzN, hsN, hbN⟩ := tinfo infoEn
  have hp200 : ∀ p ∈ sg.map encB, p.length ≤ 200 := fun p hp => by
    obtain ⟨e, he, rfl⟩ := List.mem_map.1 hp
    exact (enc_len (enc_ok (hT e he))).2
  have hcl := cat_len _ hp200
  rw [List.length_map] at hcl
  have HA := Lib.hid (all_any hX ht hn hc (by omega) hp200 (by rw [List.length_map]; omega))
  obtain ⟨v0, hbk⟩ := h.box
  have HC2 : Hid (∀ W, Below w.heap.size w W → W.cell? ⟨lb, 2, none⟩ = some (.int .i64 5)) := Lib.hid (fun W hW => (hbk.bel hW).cell 2)
  have c2 : w.cell? ⟨lb, 2, none⟩ = some (.int .i64 5) := hbk.cell 2
  have HT := Lib.hid (And.intro hsg (And.intro hT (And.intro hG (And.intro hl (And.intro hlast h)))))
  clear h hsg hT hG hl hX ht hn hc hlast hp200 hcl hbk
  go_enter Tryz.func26, Tryz.ntmps26
  go_wp2_with fail
  refine wp_scope_jumps 0 (fun a' w' => ∃ (j : Nat) (pr : List (Sl × Bs)) (ub : Option Addr) (pl uc o : Nat) (st : Int) (k : Nat) (U : Scr), a' = { tmps := #[.pointer (some ⟨lb, 0, none⟩), .slice b n cap, .bool last, undef, undef, undef, .int .i64 0, .int .i64 0, .int .i64 0, .slice ub pl uc, .int .i64 (o : Nat), .int .i64 st, .int .i64 (k : Nat), U.u13, U.u14, U.u15, U.u16, U.u17, U.u18, U.u19, U.u20, U.u21, U.u22, U.u23, U.u24, U.u25, U.u26, U.u27, U.u28, U.u29, U.u30, U.u31, U.u32, U.u33, U.u34, U.u35, U.u36, U.u37, U.u38, U.u39, U.u40, U.u41, U.u42, U.u43, U.u44, U.u45, U.u46, U.u47, U.u48, U.u49, U.u50, U.u51, U.u52, U.u53, U.u54, U.u55, U.u56, U.u57, U.u58, U.u59, U.u60, U.u61, U.u62, U.u63, U.u64, U.u65, U.u66, U.u67, U.u68, U.u69, U.u70, U.u71, U.u72, U.u73, U.u74, U.u75, U.u76, U.u77, U.u78, U.u79, U.u80, U.u81, U.u82, U.u83, U.u84, U.u85, U.u86, U.u87, U.u88, U.u89, U.u90, U.u91, U.u92, U.u93, U.u94], defers := [] } ∧ Hid (LdAt w0 w' d lb X files la es us sg t j pr ub pl uc o st k)) (fun a' _ => 1000 - (intOf (a'.tmps.getD 12 undef)).toNat) rfl ?_ ?_
  · go_wp2_with fail
    refine HA.out.mono ?_
    rintro e w1 ⟨u, j, st, pr, rfl, hcut, hpr, hpay⟩
    have hb1 : Below w.heap.size w w1 := hpay.bel
    obtain ⟨ub, uc, hu, hld⟩ := LdAt.begin HT.out.2.2.2.2.2 hcut hpr hpay
    have c2' := HC2.out w1 hb1
    have hpl := hld.len
    have hst2 : (st == 2) = false := by
      rcases hcut.st with ⟨e, _⟩ | ⟨e, _⟩ <;> subst e <;> rfl
    have hst2' : ¬ st = 2 := by
      rcases hcut.st with ⟨e, _⟩ | ⟨e, _⟩ <;> subst e <;> decide
    have HL : Hid (last = false → st = 0 ∧ pr.length = 5) := Lib.hid (fun c => by
      obtain ⟨h1, h2⟩ := HT.out.2.2.2.2.1 c
      obtain ⟨h3, h4⟩ := hcut.whole (by rw [off_all]; exact h1)
      rw [List.length_map, h2] at h4
      exact ⟨h3, by omega⟩)
    obtain ⟨pl, hple⟩ : ∃ pl, pr.length = pl := ⟨_, rfl⟩
    obtain ⟨o, ho⟩ : ∃ o, off (sg.map encB) j = o := ⟨_, rfl⟩
    rw [hple] at hu hld hpl HL
    rw [ho] at hld ⊢
    subst hu
    have h5 : ¬ (5 : Int) < (pl : Int) := by have := HT.out.1; omega
    have H := Lib.hid hld
    clear hpl
    clear hcut hpr hpay hld hb1 ho hple
    cases last
    all_goals first
      | (have hl5 : ¬ (pl : Int) < 5 := by (have := (HL.out rfl).2; omega)
         have hst1 : (st == 1) = false := by (rw [(HL.out rfl).1]; rfl)
         have hst1' : ¬ st = 1 := by (rw [(HL.out rfl).1]; decide)
         go_upto_region 7 with fail)
      | (go_upto_region 7 with fail)
      | fail
    all_goals
      go_step3
      generalize w1 = wr at H ⊢
      by_cases hlt : 0 < pl
      · have hpl5 : pl ≤ 5 := by have := H.out.len; have := HT.out.1; omega
        obtain ⟨e, bb, cc, B, of, hsg, rfl, hce, hbi, hcc⟩ := H.out.step hlt
        have he : TaleEv e := HT.out.2.1 e (List.mem_of_getElem? hsg)
        have hwi : Below w0.heap.size w0 wr := H.out.2.2.2.2.2.init
        have hz8 : Bk (wr.alloc (.cells #[.string ⟨#[]⟩, .int .i64 0, .int .i64 0, .int .i64 0, .string ⟨#[]⟩, .string ⟨#[]⟩, .int .i64 0, .string ⟨#[]⟩, .bool true] 72)) wr.heap.size [.string ⟨#[]⟩, .int .i64 0, .int .i64 0, .int .i64 0, .string ⟨#[]⟩, .string ⟨#[]⟩, .int .i64 0, .string ⟨#[]⟩, .bool true] 72 := Bk.new wr [.string ⟨#[]⟩, .int .i64 0, .int .i64 0, .int .i64 0, .string ⟨#[]⟩, .string ⟨#[]⟩, .int .i64 0, .string ⟨#[]⟩, .bool true] 72
        have HB8 : Hid (Below wr.heap.size wr (wr.alloc (.cells #[.string ⟨#[]⟩, .int .i64 0, .int .i64 0, .int .i64 0, .string ⟨#[]⟩, .string ⟨#[]⟩, .int .i64 0, .string ⟨#[]⟩, .bool true] 72))) := Lib.hid ((Below.refl _ _).alloc (Nat.le_refl _) _)
        have HZ8 := Lib.hid hz8
        have c0 : wr.cell? ⟨B, of, none⟩ = some (.slice bb (encB e).length cc) := hce wr (Below.refl _ _)
        have c0' : (wr.alloc (.cells #[.string ⟨#[]⟩, .int .i64 0, .int .i64 0, .int .i64 0, .string ⟨#[]⟩, .string ⟨#[]⟩, .int .i64 0, .string ⟨#[]⟩, .bool true] 72)).cell? ⟨B, of, none⟩ = some (.slice bb (encB e).length cc) := hce _ HB8.out
        have HDE : Hid (∀ W, Below wr.heap.size wr W → Calls Tryz.prog 44 #[.slice bb (encB e).length cc] W fun r w' => r = .returned (.tuple #[evV e, .int .i64 (encB e).length, .int .i64 0]) ∧ Below W.heap.size W w') := Lib.hid (fun W hW => decode_any he bb cc W (HT.out.2.2.1.bel (hwi.trans (hW.mono hwi.size))) (hbi.bel hW) hcc)
        have HEN := Lib.hid (enc_len (enc_ok he))
        obtain ⟨nn, hnn⟩ : ∃ nn, (encB e).length = nn := ⟨_, rfl⟩
        rw [hnn] at c0 c0' HDE HEN
        have hn0 : (0 : Int) < (nn : Int) := by have := HEN.out; omega
        have HSG := Lib.hid hsg
        have i0 : (0 : Int) ≤ (0 : Int) := by omega
        have i1 : (0 : Int) < (pl : Int) := by omega
        unfold evV at HDE
        clear he hz8 hce hbi hcc hnn hsg hwi
        go_wp2_with fail
        refine (HDE.out _ HB8.out).mono ?_
        rintro r w2 ⟨rfl, b2⟩
        have hz2 : Bk (w2.alloc (.cells #[.string e.src, .int .i64 e.num, .int .i64 e.at_, .int .i64 e.kind, .string e.per, .string e.item, .int .i64 e.val, .string e.txt] 60)) wr.heap.size [.string ⟨#[]⟩, .int .i64 0, .int .i64 0, .int .i64 0, .string ⟨#[]⟩, .string ⟨#[]⟩, .int .i64 0, .string ⟨#[]⟩, .bool true] 72 := (HZ8.out.bel b2).old _
        have hbw : Below wr.heap.size wr (w2.alloc (.cells #[.string e.src, .int .i64 e.num, .int .i64 e.at_, .int .i64 e.kind, .string e.per, .string e.item, .int .i64 e.val, .string e.txt] 60)) := (HB8.out.trans (b2.mono HB8.out.size)).alloc (Nat.le_trans HB8.out.size b2.size) _
        have HW2 := Lib.hid (And.intro hz2 hbw)
        clear hz2 hbw b2 HDE
        go_upto_region 15 with (first
          | ((with_reducible show wpList _ _ _ (Oper.mk _ (Op.store 72 _ _) _ _ _ _ :: _) _ _); refine wpList_store_rowTo rfl 72 _ _ rfl rfl wr.heap.size #[.string e.src, .int .i64 e.num, .int .i64 e.at_, .int .i64 e.kind, .string e.per, .string e.item, .int .i64 e.val, .string e.txt, .bool false] rfl rfl 72 #[.string ⟨#[]⟩, .int .i64 0, .int .i64 0, .int .i64 0, .string ⟨#[]⟩, .string ⟨#[]⟩, .int .i64 0, .string ⟨#[]⟩, .bool true] HW2.out.1 (by show _ = some 9; kernel_rfl) (by rfl) (all_oneCell_toArray (enOne e)) ?_)
          | fail)
        have hb3 : Below wr.heap.size wr ((w2.alloc (.cells #[.string e.src, .int .i64 e.num, .int .i64 e.at_, .int .i64 e.kind, .string e.per, .string e.item, .int .i64 e.val, .string e.txt] 60)).setRow wr.heap.size #[.string e.src, .int .i64 e.num, .int .i64 e.at_, .int .i64 e.kind, .string e.per, .string e.item, .int .i64 e.val, .string e.txt, .bool false]) := bel_setRow HW2.out.2 (Nat.le_refl _) _
        have hk3 : Bk ((w2.alloc (.cells #[.string e.src, .int .i64 e.num, .int .i64 e.at_, .int .i64 e.kind, .string e.per, .string e.item, .int .i64 e.val, .string e.txt] 60)).setRow wr.heap.size #[.string e.src, .int .i64 e.num, .int .i64 e.at_, .int .i64 e.kind, .string e.per, .string e.item, .int .i64 e.val, .string e.txt, .bool false]) wr.heap.size (enC e) 72 := HW2.out.1.setRow (enC e)
        have hj3 := H.out.2.2.2.2.2.push_box hb3 hk3 (Nat.le_refl _)
        generalize (w2.alloc (.cells #[.string e.src, .int .i64 e.num, .int .i64 e.at_, .int .i64 e.kind, .string e.per, .string e.item, .int .i64 e.val, .string e.txt] 60)).setRow wr.heap.size #[.string e.src, .int .i64 e.num, .int .i64 e.at_, .int .i64 e.kind, .string e.per, .string e.item, .int .i64 e.val, .string e.txt, .bool false] = W3 at hj3 ⊢
        clear hb3 hk3 HW2 HB8 HZ8 c0 c0'
        generalize wr.heap.size = g at hj3 ⊢
        obtain ⟨m1, hm1⟩ : ∃ m1, (es ++ sg.take 0).length = m1 := ⟨_, rfl⟩
        have hm60 : m1 < 65 := by
          have h1 := HT.out.2.2.2.1
          have h2 := HT.out.1
          rw [← hm1, List.length_append, List.length_take]; omega
        obtain ⟨ub, uc5, hpre⟩ := Pre.of hj3 m1 hm1
        have hpre4 : Pre w0 (W3.alloc (.cells #[.string e.src, .int .i64 e.num, .int .i64 e.at_, .int .i64 e.kind, .string e.per, .string e.item, .int .i64 e.val, .string e.txt, .bool false] 72)) d lb X files la (es ++ sg.take 0) (us ++ (Ob.row (.slice (some ⟨B, of, none⟩) pl uc) 22 1 pl ((pr.map Prod.fst).flatMap slC) :: rowsOf pr)) g e ub m1 uc5 := hpre.bel ((Below.refl W3.heap.size W3).alloc (Nat.le_refl _) (.cells (enC e).toArray 72))
        have HPRE := Lib.hid (hpre4.bel ((Below.refl _ _).drew))
        obtain ⟨p0, p1, p2, p3, p4, p5, p6, p7, p8, p9⟩ := (hpre.cells)
        obtain ⟨q0, q1, q2, q3, q4, q5, q6, q7, q8, q9⟩ := (hpre4.cells)
        have HROW := Lib.hid HPRE.out.row
        have HIN : Hid (InW (W3.alloc (.cells #[.string e.src, .int .i64 e.num, .int .i64 e.at_, .int .i64 e.kind, .string e.per, .string e.item, .int .i64 e.val, .string e.txt, .bool false] 72)).drew (some ⟨W3.heap.size, 0, none⟩) 9 ([e].map enC)) := Lib.hid (inw_one (f := enC) (x := e) ((Bk.new W3 (enC e) 72).bel (Below.refl _ _).drew))
        have HLN : Hid ((es ++ sg.take 0).length + [e].length ≤ 1000000) := Lib.hid (by rw [hm1]; simp; omega)
        have HM1 := Lib.hid hm1
        clear hpre hpre4 hj3 hm1
        go_region_law (first
          | (refine step_append_m enLen enOne (by rfl) _ _ _ (by rfl) 72 iN _ 104 Tryz.underlying66 hiN hzN hsN hbN rfl (by decide) (by omega) (.slice ub m1 uc5) (es ++ sg.take 0) [e] (by rfl) HROW.out (some ⟨W3.heap.size, 0, none⟩) 1 1 (by rfl) rfl HIN.out HLN.out ?_
             intro v5 w5 o5 f5 h5
             obtain ⟨ub', n', uc', hv5, y5, g5, HF5⟩ := HPRE.out.app o5 f5 h5
             subst hv5
             obtain ⟨y5, -⟩ := y5
             clear o5 f5 h5)
          | fail)
        all_goals
          have HNX := Lib.hid (H.out.next hlt HSG.out HF5.out)
          clear HROW HIN HLN HPRE HF5 y5 g5
          go_wp2_with fail
          go_step3
          exact ⟨rfl, j, pr, some ⟨B, of, none⟩, pl, uc, o, st, 1, ⟨_, _, _, _, _, _, _, _, _, _, _, _, _, _, _, _, _, _, _, _, _, _, _, _, _, _, _, _, _, _, _, _, _, _, _, _, _, _, _, _, _, _, _, _, _, _, _, _, _, _, _, _, _, _, _, _, _, _, _, _, _, _, _, _, _, _, _, _, _, _, _, _, _, _, _, _, _, _, _, _, _, _⟩, rfl, HNX⟩
      · have hkp : 0 = pl := by have := H.out.2.2.2.2.1; omega
        have i1 : ¬ (0 : Int) < (pl : Int) := by omega
        have HF := Lib.hid (H.out.fin hkp)
        clear H hkp
        go_wp2_with fail
        refine jump_ret' ?_
        exact bodyPost_ret (finL rfl) rfl ⟨j, st, by rw [← HF.out.2.1]; rfl, HF.out.1, HF.out.2.2⟩
  · rintro a' wr ⟨j, pr, ub, pl, uc, o, st, k, U, rfl, H⟩
    have HMS : Hid (1000 - (intOf (Value.int .i64 ((k + 1 : Nat) : Int))).toNat < 1000 - (intOf (Value.int .i64 (k : Int))).toNat) := Lib.hid (by
      have h1 := H.out.len
      have h2 := H.out.2.2.2.2.1
      have h3 := HT.out.1
      simp [intOf]; omega)
    by_cases hlt : k < pl
    · have hpl5 : pl ≤ 5 := by have := H.out.len; have := HT.out.1; omega
      obtain ⟨e, bb, cc, B, of, hsg, rfl, hce, hbi, hcc⟩ := H.out.step hlt
      have he : TaleEv e := HT.out.2.1 e (List.mem_of_getElem? hsg)
      have hwi : Below w0.heap.size w0 wr := H.out.2.2.2.2.2.init
      have hz8 : Bk (wr.alloc (.cells #[.string ⟨#[]⟩, .int .i64 0, .int .i64 0, .int .i64 0, .string ⟨#[]⟩, .string ⟨#[]⟩, .int .i64 0, .string ⟨#[]⟩, .bool true] 72)) wr.heap.size [.string ⟨#[]⟩, .int .i64 0, .int .i64 0, .int .i64 0, .string ⟨#[]⟩, .string ⟨#[]⟩, .int .i64 0, .string ⟨#[]⟩, .bool true] 72 := Bk.new wr [.string ⟨#[]⟩, .int .i64 0, .int .i64 0, .int .i64 0, .string ⟨#[]⟩, .string ⟨#[]⟩, .int .i64 0, .string ⟨#[]⟩, .bool true] 72
      have HB8 : Hid (Below wr.heap.size wr (wr.alloc (.cells #[.string ⟨#[]⟩, .int .i64 0, .int .i64 0, .int .i64 0, .string ⟨#[]⟩, .string ⟨#[]⟩, .int .i64 0, .string ⟨#[]⟩, .bool true] 72))) := Lib.hid ((Below.refl _ _).alloc (Nat.le_refl _) _)
      have HZ8 := Lib.hid hz8
      have c0 : wr.cell? ⟨B, of + k, none⟩ = some (.slice bb (encB e).length cc) := hce wr (Below.refl _ _)
      have c0' : (wr.alloc (.cells #[.string ⟨#[]⟩, .int .i64 0, .int .i64 0, .int .i64 0, .string ⟨#[]⟩, .string ⟨#[]⟩, .int .i64 0, .string ⟨#[]⟩, .bool true] 72)).cell? ⟨B, of + k, none⟩ = some (.slice bb (encB e).length cc) := hce _ HB8.out
      have HDE : Hid (∀ W, Below wr.heap.size wr W → Calls Tryz.prog 44 #[.slice bb (encB e).length cc] W fun r w' => r = .returned (.tuple #[evV e, .int .i64 (encB e).length, .int .i64 0]) ∧ Below W.heap.size W w') := Lib.hid (fun W hW => decode_any he bb cc W (HT.out.2.2.1.bel (hwi.trans (hW.mono hwi.size))) (hbi.bel hW) hcc)
      have HEN := Lib.hid (enc_len (enc_ok he))
      obtain ⟨nn, hnn⟩ : ∃ nn, (encB e).length = nn := ⟨_, rfl⟩
      rw [hnn] at c0 c0' HDE HEN
      have hn0 : (0 : Int) < (nn : Int) := by have := HEN.out; omega
      have HSG := Lib.hid hsg
      have i0 : (0 : Int) ≤ (k : Int) := by omega
      have i1 : (k : Int) < (pl : Int) := by omega
      unfold evV at HDE
      clear he hz8 hce hbi hcc hnn hsg hwi
      go_wp2_with fail
      refine (HDE.out _ HB8.out).mono ?_
      rintro r w2 ⟨rfl, b2⟩
      have hz2 : Bk (w2.alloc (.cells #[.string e.src, .int .i64 e.num, .int .i64 e.at_, .int .i64 e.kind, .string e.per, .string e.item, .int .i64 e.val, .string e.txt] 60)) wr.heap.size [.string ⟨#[]⟩, .int .i64 0, .int .i64 0, .int .i64 0, .string ⟨#[]⟩, .string ⟨#[]⟩, .int .i64 0, .string ⟨#[]⟩, .bool true] 72 := (HZ8.out.bel b2).old _
      have hbw : Below wr.heap.size wr (w2.alloc (.cells #[.string e.src, .int .i64 e.num, .int .i64 e.at_, .int .i64 e.kind, .string e.per, .string e.item, .int .i64 e.val, .string e.txt] 60)) := (HB8.out.trans (b2.mono HB8.out.size)).alloc (Nat.le_trans HB8.out.size b2.size) _
      have HW2 := Lib.hid (And.intro hz2 hbw)
      clear hz2 hbw b2 HDE
      go_upto_region 15 with (first
        | ((with_reducible show wpList _ _ _ (Oper.mk _ (Op.store 72 _ _) _ _ _ _ :: _) _ _); refine wpList_store_rowTo rfl 72 _ _ rfl rfl wr.heap.size #[.string e.src, .int .i64 e.num, .int .i64 e.at_, .int .i64 e.kind, .string e.per, .string e.item, .int .i64 e.val, .string e.txt, .bool false] rfl rfl 72 #[.string ⟨#[]⟩, .int .i64 0, .int .i64 0, .int .i64 0, .string ⟨#[]⟩, .string ⟨#[]⟩, .int .i64 0, .string ⟨#[]⟩, .bool true] HW2.out.1 (by show _ = some 9; kernel_rfl) (by rfl) (all_oneCell_toArray (enOne e)) ?_)
        | fail)
      have hb3 : Below wr.heap.size wr ((w2.alloc (.cells #[.string e.src, .int .i64 e.num, .int .i64 e.at_, .int .i64 e.kind, .string e.per, .string e.item, .int .i64 e.val, .string e.txt] 60)).setRow wr.heap.size #[.string e.src, .int .i64 e.num, .int .i64 e.at_, .int .i64 e.kind, .string e.per, .string e.item, .int .i64 e.val, .string e.txt, .bool false]) := bel_setRow HW2.out.2 (Nat.le_refl _) _
      have hk3 : Bk ((w2.alloc (.cells #[.string e.src, .int .i64 e.num, .int .i64 e.at_, .int .i64 e.kind, .string e.per, .string e.item, .int .i64 e.val, .string e.txt] 60)).setRow wr.heap.size #[.string e.src, .int .i64 e.num, .int .i64 e.at_, .int .i64 e.kind, .string e.per, .string e.item, .int .i64 e.val, .string e.txt, .bool false]) wr.heap.size (enC e) 72 := HW2.out.1.setRow (enC e)
      have hj3 := H.out.2.2.2.2.2.push_box hb3 hk3 (Nat.le_refl _)
      generalize (w2.alloc (.cells #[.string e.src, .int .i64 e.num, .int .i64 e.at_, .int .i64 e.kind, .string e.per, .string e.item, .int .i64 e.val, .string e.txt] 60)).setRow wr.heap.size #[.string e.src, .int .i64 e.num, .int .i64 e.at_, .int .i64 e.kind, .string e.per, .string e.item, .int .i64 e.val, .string e.txt, .bool false] = W3 at hj3 ⊢
      clear hb3 hk3 HW2 HB8 HZ8 c0 c0'
      generalize wr.heap.size = g at hj3 ⊢
      obtain ⟨m1, hm1⟩ : ∃ m1, (es ++ sg.take k).length = m1 := ⟨_, rfl⟩
      have hm60 : m1 < 65 := by
        have h1 := HT.out.2.2.2.1
        have h2 := HT.out.1
        rw [← hm1, List.length_append, List.length_take]; omega
      obtain ⟨ub, uc5, hpre⟩ := Pre.of hj3 m1 hm1
      have hpre4 : Pre w0 (W3.alloc (.cells #[.string e.src, .int .i64 e.num, .int .i64 e.at_, .int .i64 e.kind, .string e.per, .string e.item, .int .i64 e.val, .string e.txt, .bool false] 72)) d lb X files la (es ++ sg.take k) (us ++ (Ob.row (.slice (some ⟨B, of, none⟩) pl uc) 22 1 pl ((pr.map Prod.fst).flatMap slC) :: rowsOf pr)) g e ub m1 uc5 := hpre.bel ((Below.refl W3.heap.size W3).alloc (Nat.le_refl _) (.cells (enC e).toArray 72))
      have HPRE := Lib.hid (hpre4.bel ((Below.refl _ _).drew))
      obtain ⟨p0, p1, p2, p3, p4, p5, p6, p7, p8, p9⟩ := (hpre.cells)
      obtain ⟨q0, q1, q2, q3, q4, q5, q6, q7, q8, q9⟩ := (hpre4.cells)
      have HROW := Lib.hid HPRE.out.row
      have HIN : Hid (InW (W3.alloc (.cells #[.string e.src, .int .i64 e.num, .int .i64 e.at_, .int .i64 e.kind, .string e.per, .string e.item, .int .i64 e.val, .string e.txt, .bool false] 72)).drew (some ⟨W3.heap.size, 0, none⟩) 9 ([e].map enC)) := Lib.hid (inw_one (f := enC) (x := e) ((Bk.new W3 (enC e) 72).bel (Below.refl _ _).drew))
      have HLN : Hid ((es ++ sg.take k).length + [e].length ≤ 1000000) := Lib.hid (by rw [hm1]; simp; omega)
      have HM1 := Lib.hid hm1
      clear hpre hpre4 hj3 hm1
      go_region_law (first
        | (refine step_append_m enLen enOne (by rfl) _ _ _ (by rfl) 72 iN _ 104 Tryz.underlying66 hiN hzN hsN hbN rfl (by decide) (by omega) (.slice ub m1 uc5) (es ++ sg.take k) [e] (by rfl) HROW.out (some ⟨W3.heap.size, 0, none⟩) 1 1 (by rfl) rfl HIN.out HLN.out ?_
           intro v5 w5 o5 f5 h5
           obtain ⟨ub', n', uc', hv5, y5, g5, HF5⟩ := HPRE.out.app o5 f5 h5
           subst hv5
           obtain ⟨y5, -⟩ := y5
           clear o5 f5 h5)
        | fail)
      all_goals
        have HNX := Lib.hid (H.out.next hlt HSG.out HF5.out)
        clear HROW HIN HLN HPRE HF5 y5 g5
        go_wp2_with fail
        go_step3
        exact ⟨rfl, ⟨j, pr, some ⟨B, of, none⟩, pl, uc, o, st, k + 1, ⟨_, _, _, _, _, _, _, _, _, _, _, _, _, _, _, _, _, _, _, _, _, _, _, _, _, _, _, _, _, _, _, _, _, _, _, _, _, _, _, _, _, _, _, _, _, _, _, _, _, _, _, _, _, _, _, _, _, _, _, _, _, _, _, _, _, _, _, _, _, _, _, _, _, _, _, _, _, _, _, _, _, _⟩, rfl, HNX⟩, HMS.out⟩
    · have hkp : k = pl := by have := H.out.2.2.2.2.1; omega
      have i1 : ¬ (k : Int) < (pl : Int) := by omega
      have HF := Lib.hid (H.out.fin hkp)
      clear H hkp
      go_wp2_with fail
      refine jump_ret' ?_
      exact bodyPost_ret (finL rfl) rfl ⟨j, st, by rw [← HF.out.2.1]; rfl, HF.out.1, HF.out.2.2⟩
end Tr
end Go.Proofs.YtkofcegdoilaeaaGreatDoor
namespace Go.Proofs.YtkofcegdoilaeaaGreatDoor
open Go.RowKit Go.MapKept Go.Maps
set_option linter.unusedVariables false
set_option linter.unusedSimpArgs false
namespace Tr
open Es Tl Rk
/-- the digits of a number -/
def dgT (i : Nat) : ByteArray := ⟨(Lib.decDigits i).toArray⟩
theorem fN_cut : ∀ i : Fin 13, Lib.hasPrefix (fN i.val).data.toList evD.data.toList = true ∧ Lib.trimPrefix (fN i.val).data.toList evD.data.toList = Lib.decDigits i.val := by decide +kernel
theorem dg_list : ∀ i : Fin 13, 0 < (Lib.decDigits i.val).length ∧ (Lib.decDigits i.val).length ≤ 4 ∧ (∀ c ∈ Lib.decDigits i.val, 48 ≤ c.toNat ∧ c.toNat ≤ 57) ∧ ((Lib.decDigits i.val).length = 1 ∨ (Lib.decDigits i.val).headD 48 ≠ 48) := by decide +kernel
theorem dg_size (i : Nat) : (dgT i).size = (Lib.decDigits i).length := by unfold dgT; simp [ByteArray.size]
theorem dg_data (i : Nat) : (dgT i).data.toList = Lib.decDigits i := by simp [dgT]
theorem dg_any (i : Nat) (hi : i < 13) (w : World) : Calls Tryz.prog 40 #[.string (dgT i)] w fun e w' => e = .returned (.bool true) ∧ w' = w := by
  obtain ⟨h1, h2, h3, h4⟩ := dg_list ⟨i, hi⟩
  simp only at h1 h2 h3 h4
  refine digs_any (dgT i) w (by rw [dg_size]; exact h1) (by rw [dg_size]; exact h2) (by rw [dg_data]; exact h3) ?_
  rcases h4 with h4 | h4
  · left; rw [dg_size]; exact h4
  · right
    intro c
    apply h4
    have e : (dgT i)[0]'(by rw [dg_size]; exact h1) = (Lib.decDigits i)[0]'h1 := by
      show (dgT i).data[0]'_ = _
      unfold dgT
      simp
    rw [e] at c
    cases hd : Lib.decDigits i with
    | nil => rfl
    | cons x r =>
      simp only [hd, List.getElem_cons_zero] at c
      exact UInt8.toNat_inj.1 c
theorem cut_pre (i : Nat) (hi : i < 13) (w : World) : Calls Tryz.prog 39 #[.string (fN i), .string evD] w fun e w' => e = .returned (.tuple #[.string (dgT i), .bool true]) ∧ w' = w := by
  have h := Tryz.strings_CutPrefix (fN i) evD w
  obtain ⟨h1, h2⟩ := fN_cut ⟨i, hi⟩
  rw [h1, h2] at h
  exact h
/-- names that are there -/
def mbS (ks : List ByteArray) : List (ByteArray × Value) := ks.map fun s => (s, Value.bool true)
theorem mbS_get {ks : List ByteArray} {s : ByteArray} (h : s ∈ ks) : mget (mbS ks) s = some (.bool true) := by
  induction ks with
  | nil => cases h
  | cons k ks ih =>
    show (if k = s then some (Value.bool true) else mget (mbS ks) s) = _
    by_cases e : k = s
    · rw [if_pos e]
    · rw [if_neg e]
      exact ih ((List.mem_cons.1 h).resolve_left (fun c => e c.symm))
theorem mbS_more {ks : List ByteArray} {s : ByteArray} (h : s ∉ ks) : mput (mbS ks) s (.bool true) = mbS (ks ++ [s]) := by
  rw [mput_none (fun p hp => by
    obtain ⟨k, hk, rfl⟩ := List.mem_map.1 hp
    exact fun c => h (c ▸ hk))]
  simp [mbS]
theorem mbS_len (ks : List ByteArray) : (mbS ks).length = ks.length := by simp [mbS]
section
variable {w0 w : World} {d lb : Nat} {X : Dk} {us : List Ob} {ps : List Bs} {m t : Nat}
set_option maxRecDepth 100000 in
set_option maxHeartbeats 8000000 in
theorem find_any (h : Jx w0 w d lb X 0 0 [] us) (hF : FD X ps m t) (hm : m < 13) :
    Calls Tryz.prog 23 #[.pointer (some ⟨lb, 0, none⟩)] w fun r w' => r = .returned (.bool true) ∧ Jx w0 w' d lb X m 0 [] us := by
  have HNM : Hid (∀ n ∈ fnames X.L, ∃ i, i < m ∧ n = fN i) := Lib.hid (fun n hn => hF.name_of hn)
  have HHAS : Hid (∀ i, i < m → fN i ∈ fnames X.L) := Lib.hid (fun i hi => hF.has hi)
  have hcnt := hF.count h.ok hm
  have hnd : (fnames X.L).Nodup := h.ok.rise.nodup
  obtain ⟨v, hbk⟩ := h.box
  have HC : Hid (∀ W, Below w.heap.size w W → W.cell? ⟨lb, 0, none⟩ = some (.pointer (some ⟨d, 0, none⟩)) ∧ W.cell? ⟨lb, 1, none⟩ = some (.string evN) ∧ W.cell? ⟨lb, 3, none⟩ = some (.int .i64 0) ∧ W.frozen? ⟨lb, 3, none⟩ = false) := Lib.hid (fun W hW => by
    have b := hbk.bel hW
    exact ⟨b.cell 0, b.cell 1, b.cell 3, b.free 3⟩)
  have HJ := Lib.hid h
  have HNA : Hid (∀ W, Below w.heap.size w W → Calls Tryz.prog 20 #[.pointer (some ⟨d, 0, none⟩)] W fun e w' => ∃ v : Value, e = .returned v ∧ MkT W w' v (fnames X.L)) := Lib.hid (fun W hW => by
    obtain ⟨v, h⟩ := h.bel hW
    refine (h_names h (i := 0) rfl).mono ?_
    rintro e w' ⟨v, rfl, k, _⟩
    exact ⟨v, rfl, k⟩)
  obtain ⟨ns, hns⟩ : ∃ ns, fnames X.L = ns := ⟨_, rfl⟩
  rw [hns] at HNM HHAS hcnt hnd HNA
  have HQ := Lib.hid (And.intro hcnt hnd)
  obtain ⟨nm, hnm⟩ : ∃ nm, evN = nm := ⟨_, rfl⟩
  have h6 : nm.size = 6 := by rw [← hnm]; rfl
  have hd2 : ¬ (9223372036854775807 < nm.size + 1) := by omega
  have HNE := Lib.hid hnm
  clear h hF hcnt hnd hbk hns
  go_enter Tryz.func23, Tryz.ntmps23
  have hmm := @run_makeMap Tryz.prog
  go_upto_region 2 with fail
  clear hmm
  have HV : Hid (Below w.heap.size w (w.alloc (.map #[] 0)) ∧ Mp encS okS (w.alloc (.map #[] 0)) w.heap.size [] ∧ w.heap.size < (w.alloc (.map #[] 0)).heap.size) := Lib.hid ⟨(Below.refl _ _).alloc (Nat.le_refl _) _, Mp.made w, by simp⟩
  generalize w.alloc (.map #[] 0) = V at HV ⊢
  obtain ⟨g, HG⟩ : ∃ g, Hid (w.heap.size = g) := ⟨_, Lib.hid rfl⟩
  rw [HG.out] at HC HNA HV ⊢
  have c0 := (HC.out V HV.out.1).1
  go_wp2_with fail
  refine (HNA.out V HV.out.1).mono ?_
  rintro e w1 ⟨u, rfl, mt⟩
  obtain ⟨nb, nc, hu, _, _, hst⟩ := mt.tx.strs
  subst hu
  rw [HQ.out.1]
  have HNB : Hid (∀ b, (Value.slice nb m nc).ownBlock = some b → b ≠ g) := Lib.hid (fun b hb e => by
    have h1 := mt.nw b (by rw [HQ.out.1]; exact hb)
    have h2 := HV.out.2.2
    omega)
  have HNBA : Hid (∀ k o, nb = some ⟨k, o, none⟩ → k ≠ g) := Lib.hid (fun k o hk => HNB.out k (by rw [hk]; rfl))
  have HS0 : Hid (Below g w w1 ∧ Mp encS okS w1 g [] ∧ Strs w1 nb ns) := Lib.hid ⟨HV.out.1.trans (mt.bl.mono (Nat.le_of_lt HV.out.2.2)), HV.out.2.1.bel mt.bl, hst⟩
  clear mt hst HNA HNB c0
  go_wp2_with fail
  go_loopw [16] (fun c wr => ∃ k : Nat, k ≤ m ∧ c = .int .i64 k ∧ Hid (Below g w wr ∧ Mp encS okS wr g (mbS (ns.take k)) ∧ Strs wr nb ns)) (fun c _ => m - (intOf c).toNat)
  case atStart => exact ⟨0, by omega, rfl, HS0⟩
  case round =>
    obtain ⟨k, hk, rfl, HR⟩ := hrel
    by_cases hlt : k < m
    · obtain ⟨x, hx⟩ : ∃ x, ns[k]? = some x := ⟨ns[k]'(by have := HQ.out.1; omega), List.getElem?_eq_getElem _⟩
      obtain ⟨i, hi, hxi⟩ := HNM.out x (List.mem_of_getElem? hx)
      obtain ⟨B, off, rfl, hB, hc⟩ := HR.out.2.2.at hx
      have hc1 : wr.cell? ⟨B, off + k, none⟩ = some (.string x) := hc
      have c1 : wr.cell? ⟨lb, 1, none⟩ = some (.string evN) := (HC.out wr HR.out.1).2.1
      rw [HNE.out] at c1
      have HCP : Hid (∀ W, Calls Tryz.prog 39 #[.string x, .string (nm ++ ⟨#[46]⟩)] W fun e w' => e = .returned (.tuple #[.string (dgT i), .bool true]) ∧ w' = W) := Lib.hid (fun W => by
        rw [hxi, ← HNE.out, evD_eq]
        exact cut_pre i (by omega) W)
      have HDG := Lib.hid (fun W => dg_any i (by omega) W)
      have HNO : Hid (x ∉ ns.take k) := Lib.hid (fun c => by
        obtain ⟨j, hj⟩ := List.getElem?_of_mem c
        rw [List.getElem?_take] at hj
        split at hj
        · have := (List.getElem?_inj (by have := HQ.out.1; omega) HQ.out.2).1 (hj.trans hx.symm)
          omega
        · cases hj)
      have HTK : Hid (ns.take (k + 1) = ns.take k ++ [x]) := Lib.hid (by rw [List.take_add_one, hx]; rfl)
      have HOK : Hid (okS x) := Lib.hid (by rw [hxi]; have := fN_size i (by omega); unfold okS maxLen; omega)
      obtain ⟨dg, hdg⟩ : ∃ dg, dgT i = dg := ⟨_, rfl⟩
      rw [hdg] at HCP HDG
      have hi0 : (0 : Int) ≤ (k : Int) := by omega
      have hi1 : (k : Int) < (m : Int) := by omega
      have HNBX : Hid (B ≠ g) := Lib.hid (HNBA.out B off rfl)
      clear hc hx hxi hi hdg
      go_wp2_with fail
      refine (HCP.out _).mono ?_
      rintro e w2 ⟨rfl, rfl⟩
      go_wp2_with fail
      refine (HDG.out _).mono ?_
      rintro e w3 ⟨rfl, rfl⟩
      go_upto_region 8 with (first
        | (at_mapUpdate; refine wpList_store rfl _ _ _ rfl keyS Tryz.underlying100 HR.out.2.1 rfl x rfl HOK.out (.bool true) rfl ?_; intro w6 m6 f6 z6)
        | fail)
      rw [mbS_more HNO.out, ← HTK.out] at m6
      have HR6 : Hid (Below g w w6 ∧ Mp encS okS w6 g (mbS (ns.take (k + 1))) ∧ Strs w6 (some ⟨B, off, none⟩) ns) := Lib.hid ⟨HR.out.1.trans (f6.below (by have := HR.out.1.size; have := HG.out; omega) (fun b e => by have e' : b = g := e; rw [e']; exact Nat.le_refl _)), m6, InW.fr HR.out.2.2 f6 (fun k' o' hk' e => by
        have e' : k' = g := e
        have := HNBX.out
        simp only [Option.some.injEq, Addr.mk.injEq] at hk'
        exact this (hk'.1.trans e'))⟩
      clear m6 f6 z6
      go_wp2_with fail
      go_roundw
      case rel => exact ⟨k + 1, by omega, by go_num, HR6⟩
      case measure => simp [intOf]; omega
    · have hkm : k = m := by omega
      have hi1 : ¬ (k : Int) < (m : Int) := by omega
      have HE : Hid (Below g w wr ∧ Mp encS okS wr g (mbS ns)) := Lib.hid ⟨HR.out.1, by have := HR.out.2.1; rw [List.take_of_length_le (by have := HQ.out.1; omega)] at this; exact this⟩
      have hln : ∀ ty, (Builtin.len_ #[100] ty #[.map (some g)]).run Tryz.prog wr = .ok (.int .i64 m) wr := fun ty => by
        have := HE.out.2.len (P := Tryz.prog) Tryz.underlying100 ty
        rw [mbS_len, HQ.out.1] at this
        exact this
      clear hkm HR
      go_wp2_with fail
      clear hln hi1
      generalize wr = wl at HE ⊢
      go_loopw [40] (fun c wr => ∃ k : Nat, k ≤ m ∧ c = .int .i64 k ∧ Hid (Below g w wr ∧ Mp encS okS wr g (mbS ns))) (fun c _ => m - (intOf c).toNat)
      case atStart => exact ⟨0, by omega, rfl, HE⟩
      case round =>
        obtain ⟨j, hj, rfl, HR⟩ := hrel
        by_cases hlt : j < m
        · have HFI := Lib.hid (file_any lb j wr (HC.out wr HR.out.1).2.1 (by omega))
          have HGE := Lib.hid (mbS_get (HHAS.out j hlt))
          have HOK : Hid (okS (fN j)) := Lib.hid (by have := fN_size j (by omega); unfold okS maxLen; omega)
          have hi1 : (j : Int) < (m : Int) := by omega
          obtain ⟨fj, hfj⟩ : ∃ fj, fN j = fj := ⟨_, rfl⟩
          rw [hfj] at HFI HGE HOK
          clear hfj
          go_wp2_with fail
          refine HFI.out.mono ?_
          rintro e w2 ⟨rfl, q, rfl⟩
          have HR2 : Hid (Below g w (wr.drewN q) ∧ Mp encS okS (wr.drewN q) g (mbS ns)) := Lib.hid ⟨bdrewN HR.out.1 q, HR.out.2.bel (bdrewN (Below.refl _ _) q)⟩
          generalize wr.drewN q = w3 at HR2 ⊢
          go_upto_region 13 with (first
            | ((with_reducible show wpList _ _ _ (Oper.mk _ (Op.lookup _ _ _ _) _ _ _ _ :: _) _ _); refine wpList_look rfl _ _ rfl keyS Tryz.underlying100 (z := .bool false) (by kernel_rfl) HR2.out.2 rfl fj rfl HOK.out (.bool true) (by rw [HGE.out]; rfl) ?_)
            | fail)
          go_roundw
          case rel => exact ⟨j + 1, by omega, by go_num, HR2⟩
          case measure => simp [intOf]; omega
        · have hi1 : ¬ (j : Int) < (m : Int) := by omega
          have hln : ∀ ty, (Builtin.len_ #[100] ty #[.map (some g)]).run Tryz.prog wr = .ok (.int .i64 m) wr := fun ty => by
            have := HR.out.2.len (P := Tryz.prog) Tryz.underlying100 ty
            rw [mbS_len, HQ.out.1] at this
            exact this
          obtain ⟨-, -, c3, f3⟩ := HC.out wr HR.out.1
          have HF : Hid (Jx w0 (wr.setCell ⟨lb, 3, none⟩ (.int .i64 m)) d lb X m 0 [] us) := Lib.hid ((HJ.out.bel (by rw [HG.out]; exact HR.out.1)).setFiles m)
          go_wp2_with fail
          go_ret
          exact ⟨rfl, HF.out⟩
end
end Tr
end Go.Proofs.YtkofcegdoilaeaaGreatDoor

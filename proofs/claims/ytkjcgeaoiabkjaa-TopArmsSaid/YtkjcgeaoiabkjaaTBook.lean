/- Book.Arms. -/
import Derived.Test.YtkjcgeaoiabkjaaTClash
import Derived.Test.YtkjcgeaoiabkjaaMapOps
import Derived.Test.YtkjcgeaoiabkjaaPane
namespace Go.Proofs.Ytkjcgeaoiabkjaa
open Go.RowKit Go.ChangeShapes Go.WideShapes Go.MapKept Go.Maps
set_option linter.unusedVariables false
set_option linter.unusedSimpArgs false
structure TVOk (w : World) (arms : List ByteArray) (x : TV) : Prop where
  tr : TrOk x.nm x.ly x.f x.t arms
  inw : InW w x.b 1 (arms.map fun s => [.string s])
  n : x.n = arms.length
  c : arms.length ≤ x.c
  m : x.c ≤ maxLen
theorem TVOk.bel {w w' : World} {arms : List ByteArray} {x : TV} (h : TVOk w arms x) (hb : Below w.heap.size w w') : TVOk w' arms x := ⟨h.tr, h.inw.bel hb, h.n, h.c, h.m⟩
def armPut (arms : List ByteArray) (pn : ByteArray) (M : List (ByteArray × Value)) (x : TV) : List (ByteArray × Value) := if armIn x.ly x.f x.t pn then mput M x.nm (.string (armOf x.nm arms pn)) else M
def armsM (arms : List ByteArray) (pn : ByteArray) (ts : List TV) : List (ByteArray × Value) := ts.foldl (armPut arms pn) []
theorem armsM_take {arms : List ByteArray} {pn : ByteArray} {ts : List TV} {i : Nat} {x : TV} (h : ts[i]? = some x) : armsM arms pn (ts.take (i + 1)) = armPut arms pn (armsM arms pn (ts.take i)) x := by
  unfold armsM
  rw [List.take_add_one, h, List.foldl_append]; rfl
set_option maxHeartbeats 3000000 in
theorem barms_any (p : Nat) (ub : Option Addr) (uc : Nat) (mo : Value) (ts : List TV) (arms : List ByteArray) (pn : ByteArray) (w : World) (hpl : p < w.heap.size) (c0 : w.cell? ⟨p, 0, none⟩ = some (.slice ub ts.length uc)) (hi : InW w ub 5 (ts.map tvC)) (hl : ts.length ≤ uc) (hm : uc ≤ maxLen) (hx : ∀ x ∈ ts, TVOk w arms x) (hpn : pn.size ≤ maxLen) :
    Calls Try.prog 17 #[.pointer (some ⟨p, 0, none⟩), .string pn] w fun e w' => e = .returned (.map (some w.heap.size)) ∧ Mp encS okS w' w.heap.size (armsM arms pn ts) ∧ Below w.heap.size w w' := by
  have HI := Lib.hid hi
  have HX := Lib.hid hx
  have HM0 : Hid (Mp encS okS (w.alloc (.map #[] 0)) w.heap.size (armsM arms pn [])) := Lib.hid (Mp.made w)
  have HB0 : Hid (Below w.heap.size w (w.alloc (.map #[] 0))) := Lib.hid ((Below.refl _ _).alloc (Nat.le_refl _) _)
  have x0 : (w.alloc (.map #[] 0)).cell? ⟨p, 0, none⟩ = some (.slice ub ts.length uc) := (HB0.out.cell (p := ⟨p, 0, none⟩) hpl).trans c0
  unfold maxLen at hm
  generalize hln : ts.length = n at *
  have Hn := Lib.hid hln
  clear hi hx hln c0
  have hmm := @run_makeMap Try.prog
  go_enter Try.func17, Try.ntmps17
  go_wp2_with fail
  go_loopw [16] (fun c wr => ∃ i : Nat, i ≤ n ∧ c = .int .i64 i ∧ Mp encS okS wr w.heap.size (armsM arms pn (ts.take i)) ∧ Below w.heap.size w wr) (fun c _ => n - (intOf c).toNat)
  case atStart => exact ⟨0, Nat.zero_le _, rfl, HM0.out, HB0.out⟩
  case round =>
    obtain ⟨i, hin, rfl, hmp, hb⟩ := hrel
    have HB := Lib.hid hb
    have HMP := Lib.hid hmp
    clear hb hmp HM0 HB0 x0
    by_cases hlt : i < n
    · obtain ⟨x, hx⟩ : ∃ x, ts[i]? = some x := ⟨ts[i]'(by have := Hn.out; omega), List.getElem?_eq_getElem _⟩
      obtain ⟨B, off, rfl, hB, d0, d1, d2, d3, d4⟩ := tv_at HI.out hx
      have hxo := HX.out x (List.mem_of_getElem? hx)
      have k0 : wr.cell? ⟨B, off + i * 5, none⟩ = some (.string x.nm) := (HB.out.cell (p := ⟨B, off + i * 5, none⟩) hB).trans d0
      have k1 : wr.cell? ⟨B, off + i * 5 + 1, none⟩ = some (.string x.ly) := (HB.out.cell (p := ⟨B, off + i * 5 + 1, none⟩) hB).trans d1
      have k2 : wr.cell? ⟨B, off + i * 5 + 2, none⟩ = some (.int .i64 x.f) := (HB.out.cell (p := ⟨B, off + i * 5 + 2, none⟩) hB).trans d2
      have k3 : wr.cell? ⟨B, off + i * 5 + 3, none⟩ = some (.int .i64 x.t) := (HB.out.cell (p := ⟨B, off + i * 5 + 3, none⟩) hB).trans d3
      have k4 : wr.cell? ⟨B, off + i * 5 + 4, none⟩ = some (.slice x.b x.n x.c) := (HB.out.cell (p := ⟨B, off + i * 5 + 4, none⟩) hB).trans d4
      have HA0 : Hid (Below wr.heap.size wr (wr.alloc (.cells #[.string x.nm, .string x.ly, .int .i64 x.f, .int .i64 x.t, .slice x.b x.n x.c] 41))) := Lib.hid ((Below.refl _ _).alloc (Nat.le_refl _) _)
      have hB1 := HB.out.trans (HA0.out.mono HB.out.size)
      have hta := tarm_any x.nm x.ly x.f x.t x.b x.c arms pn _ (hxo.inw.bel hB1) hxo.c hxo.m hxo.tr hpn
      rw [← hxo.n] at hta
      have HTK := Lib.hid (armsM_take (arms := arms) (pn := pn) hx)
      have HNB := Lib.hid (Bk.new wr [.string x.nm, .string x.ly, .int .i64 x.f, .int .i64 x.t, .slice x.b x.n x.c] 41)
      have hok : okS x.nm := nameB_max hxo.tr.n
      have hi0 : (0 : Int) ≤ (i : Int) := by omega
      have hi1 : (i : Int) < (n : Int) := by omega
      clear hx d0 d1 d2 d3 d4 hB1 hxo
      cases ha : armIn x.ly x.f x.t pn with
      | false =>
        unfold armV at hta
        rw [ha, if_neg (by simp)] at hta
        have HTA := Lib.hid hta
        have HTK2 : Hid (armsM arms pn (ts.take (i + 1)) = armsM arms pn (ts.take i)) := Lib.hid (by rw [HTK.out, armPut, ha, if_neg (by simp)])
        clear hta ha
        go_wp2_with fail
        refine HTA.out.mono ?_
        rintro e w1 ⟨rfl, b1⟩
        have HB2 := Lib.hid (HA0.out.trans (b1.mono HA0.out.size))
        clear b1 HTA k0 k1 k2 k3 k4
        go_wp2_with fail
        go_roundw
        case rel => exact ⟨i + 1, by omega, by go_num, by rw [HTK2.out]; exact HMP.out.bel HB2.out, HB.out.trans (HB2.out.mono HB.out.size)⟩
        case measure => simp [intOf]; omega
      | true =>
        unfold armV at hta
        rw [ha, if_pos rfl] at hta
        have HTA := Lib.hid hta
        have HTK2 : Hid (armsM arms pn (ts.take (i + 1)) = mput (armsM arms pn (ts.take i)) x.nm (.string (armOf x.nm arms pn))) := Lib.hid (by rw [HTK.out, armPut, ha, if_pos rfl])
        clear hta ha
        generalize armOf x.nm arms pn = av at *
        go_wp2_with fail
        refine HTA.out.mono ?_
        rintro e w1 ⟨rfl, b1⟩
        have HB2 := Lib.hid (HA0.out.trans (b1.mono HA0.out.size))
        have hnb := HNB.out.bel b1
        have y0 : w1.cell? ⟨wr.heap.size, 0, none⟩ = some (.string x.nm) := hnb.cell 0
        have HMP1 := Lib.hid (HMP.out.bel HB2.out)
        have HB3 := Lib.hid (HB.out.trans (HB2.out.mono HB.out.size))
        clear b1 HTA k0 k1 k2 k3 k4 hnb
        go_wp2_with (at_mapUpdate; refine wpList_store rfl _ _ _ rfl keyS Try.underlying49 HMP1.out rfl x.nm rfl hok (.string av) rfl ?_; intro w6 m6 f6 z6)
        have HR : Hid (Mp encS okS w6 w.heap.size (armsM arms pn (ts.take (i + 1))) ∧ Below w.heap.size w w6) := Lib.hid ⟨by rw [HTK2.out]; exact m6, below_of_fr HB3.out f6 (fun b hb => by subst hb; exact Nat.le_refl _)⟩
        clear m6 f6 z6 HMP1 HB3 y0
        go_wp2_with fail
        go_roundw
        case rel => exact ⟨i + 1, by omega, by go_num, HR.out.1, HR.out.2⟩
        case measure => simp [intOf]; omega
    · have htk : ts.take i = ts := List.take_of_length_le (by have := Hn.out; omega)
      go_wp2_with fail
      go_ret
      exact ⟨rfl, by have := HMP.out; rw [htk] at this; exact this, HB.out⟩
end Go.Proofs.Ytkjcgeaoiabkjaa

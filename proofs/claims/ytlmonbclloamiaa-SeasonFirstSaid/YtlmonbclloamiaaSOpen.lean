/- Layer 44's law: adds that came in. -/
import Derived.Test.YtlmonbclloamiaaSFill
import Derived.Lib.SmallJoins
import Derived.Deep.Strs
namespace Go.Proofs.Ytlmonbclloamiaa
open Go.RowKit Go.MapKept Go.Maps Wide Go.ChangeShapes Go.WideShapes
set_option linter.unusedVariables false
theorem i64_wf {q : Int} (h : (Lit.int .i64 q).wf = true) : I64 q := by
  simp only [Lit.wf, Bool.and_eq_true, decide_eq_true_eq] at h
  exact h
theorem cellsI64 : Try.prog.cellsOf 2 = 1 := by kernel_rfl
section
variable {H : Type} {enc : TypeId × Value → H} {W : World}
set_option maxRecDepth 100000 in
theorem open_adds {r : Reach} {b0 : Nat} {v : Value} {d : DataW H} {p : List MemPlace} (hval : Value.okWide Try.prog W r b0 33 v) (h : DataW.Trod enc Try.prog W 0 (fun _ => true) true 33 v d p) :
    ∃ (b : Option Addr) (cap : Nat) (xs : List Add10), v = .slice b xs.length cap ∧ xs.length ≤ cap ∧ cap ≤ maxLen ∧ InW W b 3 (xs.map a10C) ∧ ∀ a ∈ xs, a10Ok a := by
  refine open_slice_as 3 _ _ Try.underlying33 (by kernel_rfl) (by omega) hval h fun c fuel x hl hx => ?_
  obtain ⟨y0, y1, y2, n, _, _, h0, h1, h2⟩ := Deep.trod_struct3 Try.underlying51 hx
  match c, hl with
  | [u0, u1, u2], _ =>
    obtain ⟨a1, e1, _, w1⟩ := DataW.trod_string Try.underlying9 h0
    obtain ⟨a2, e2, _, w2⟩ := DataW.trod_int Try.underlying3 h1
    obtain ⟨a3, e3, _, w3⟩ := DataW.trod_int Try.underlying2 h2
    simp [PK.cellsI, PK.cellsS, cellsI64] at e1 e2 e3
    subst e1 e2 e3
    exact ⟨(a1, a2, a3), rfl, w1, i64_wf w2, i64_wf w3⟩
end
/-- what the law has in hand at the beginning: its season's box -/
theorem begin44 (pe bk : Int) (w : World) : ∃ W1, w.alloc (.cells #[.int .i64 pe, .int .i64 bk] 23) = W1 ∧ Here K44 w W1 [.box w.heap.size [.int .i64 pe, .int .i64 bk] 23] :=
  ⟨_, rfl, h_box (Here.nil (K := K44) (Below.refl w.heap.size w)) [.int .i64 pe, .int .i64 bk] 23⟩
theorem h_rodd {w0 w : World} {os : List Ob} (h : Here K44 w0 w os) (b : Option Addr) (cap : Nat) (l : List Add10) (hi : InW w0 b 3 (l.map a10C)) (hl : l.length ≤ 40) (ho : ∀ a ∈ l, a10Ok a) (pe bk wd now fl : Int) (hw : 1 ≤ wd ∧ wd ≤ 1099511627776) (h1 : I64 pe) (h2 : I64 bk) (h4 : I64 now) (h5 : I64 fl) :
    Calls Try.prog 22 #[.slice b l.length cap, .agg #[.int .i64 pe, .int .i64 bk], .int .i64 wd, .int .i64 now, .int .i64 fl] w fun e w' => ∃ v ks, e = .returned v ∧ OddsV (addsS wd l) pe bk wd now fl ks ∧ TextsAt w' v ks ∧ Below w.heap.size w w' := by
  unfold OddsV
  have h3 : I64 wd := by unfold I64; omega
  cases hr : rightS pe bk wd now with
  | true => exact rodd_yes b cap l pe bk wd now fl w (InW.bel hi h.bel) (by omega) ho hw.2 hr h5 h1 h2 h3 h4
  | false =>
    refine (rodd_no b cap l.length pe bk wd now fl w hr h1 h2 h3 h4).mono ?_
    rintro e w' ⟨v, rfl, ht, hb⟩
    exact ⟨v, [], rfl, rfl, ht, hb⟩
theorem OddsV.len {A : List Ad} (ha : ∀ x ∈ A, AdOk x) {pe bk wd now fl : Int} {ks : List ByteArray} (h : OddsV A pe bk wd now fl ks) : ks.length ≤ A.length := by
  unfold OddsV at h
  split at h
  · have h1 : ∀ k ∈ ks, k ∈ A.map (·.1) := fun k hk => by
      obtain ⟨x, hx, e, _⟩ := mem_of_sget ((h.2 k).1 hk).1
      exact List.mem_map.2 ⟨x, hx, e⟩
    simpa using nodup_length h.1.nodup h1
  · subst h; simp
end Go.Proofs.Ytlmonbclloamiaa

/- An append behind a guard. No program in sight. -/
import Derived.Test.YtemfnchiedepoaaRowM
namespace Go.Proofs.Ytemfnchiedepoaa
open Go.RowKit
section
variable {α : Type} {f : α → List Value} {sz : Nat} {P : Program} (hf : ∀ a, (f a).length = sz) (h1 : ∀ a, ∀ u ∈ f a, u.oneCell' = true)
include hf h1
theorem wpList_append_mg (w : World) {ops : Array Oper} {rest : List Oper} {o : Oper} {a : Act} {Q : Exit → Act → World → Prop} (hgd : Region.wanted o (yielded ops a.tmps) = true) (s x : Operand) (t : TypeId)
    (ho : o.op = .call { callee := .builtin .append, args := #[s, x], argTypes := #[t, t] })
    (e : TypeId) (i : TypeInfo) (z : Value) (bytes : Nat) (ht : P.underlying t = some (.slice e)) (hi : P.info? e = some i) (hz : i.zero = some z) (hsize : i.size = sz) (hby : i.bytes = bytes) (hzs : z.cells.size = sz) (hsz : 0 < sz) (h16 : bytes ≤ 1000)
    (v : Value) (xs ys : List α) (hs : a.eval s = v) (hown : w.ownsRow 0 e sz v xs.length (xs.flatMap f)) (b : Option Addr) (n c : Nat) (hx : a.eval x = .slice b n c) (hn : n = ys.length) (hst : InW w b sz (ys.map f)) (hlen : xs.length + ys.length ≤ 1000000)
    (h : ∀ v' w', w'.ownsRow 0 e sz v' (xs ++ ys).length ((xs ++ ys).flatMap f) → Fr (fun b => v.ownBlock = some b) w w' → Hence v v' w → wpList P ops Q rest (a.put o.dst v') w') : wpList P ops Q (o :: rest) a w := by
  subst hn
  refine wpList_step fun K hK => ?_
  rw [if_pos hgd]
  obtain ⟨v', w', hr, h2, h3, h4⟩ := run_append_m hf h1 (P := P) w t o.type e i z bytes ht hi hz hsize hby hzs hsz h16 v xs ys hown b c hst hlen
  unfold Oper.wp execOp
  simp only [ho, resolve, invoke, builtin, Sem.run_bind, Sem.run_pure, Result.andThen_ok, List.map_toArray, List.map_cons, List.map_nil, hs, hx, hr]
  exact hK _ _ (h v' w' h2 h3 h4)
end
end Go.Proofs.Ytemfnchiedepoaa

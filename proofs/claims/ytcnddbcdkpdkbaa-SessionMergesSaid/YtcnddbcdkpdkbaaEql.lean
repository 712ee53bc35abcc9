/- Two adds held against one another with '=='. -/
import Derived.Test.YtcnddbcdkpdkbaaEDoc
namespace Go.Proofs.Ytcnddbcdkpdkbaa
open Go.RowKit Go.MapKept Go.Maps Go.ChangeShapes Go.WideShapes
set_option linter.unusedVariables false
set_option linter.unusedSimpArgs false
theorem fieldsAdd : Try.prog.underlying 31 = some (.struct (Try.prog.fieldsOf 31)) := by kernel_rfl
theorem heldAdd : Try.prog.stoodInHeld 31 = false := by kernel_rfl
theorem fieldsAddM : (Try.prog.fieldsOf 31).toList.map (fun f => (f.name == "_", f.type, f.offset)) = [(false, 9, 0), (false, 3, 1), (false, 9, 2)] := by kernel_rfl
theorem fieldsAddL : ∃ f1 f2 f3 : Field, (Try.prog.fieldsOf 31).toList = [f1, f2, f3] ∧ (f1.name == "_") = false ∧ (f2.name == "_") = false ∧ (f3.name == "_") = false ∧ f1.type = 9 ∧ f2.type = 3 ∧ f3.type = 9 ∧ f1.offset = 0 ∧ f2.offset = 1 ∧ f3.offset = 2 := by
  have h := fieldsAddM
  generalize (Try.prog.fieldsOf 31).toList = l at h
  have hl := congrArg List.length h
  rw [List.length_map] at hl
  simp only [List.length_cons, List.length_nil] at hl
  match l, hl, h with
  | [f1, f2, f3], _, h =>
    simp only [List.map_cons, List.map_nil, List.cons.injEq, Prod.mk.injEq, and_true] at h
    obtain ⟨⟨h1, h2, h3⟩, ⟨h4, h5, h6⟩, h7, h8, h9⟩ := h
    exact ⟨f1, f2, f3, rfl, h1, h4, h7, h2, h5, h8, h3, h6, h9⟩
theorem eql_add (x a : Tri) (W : World) : (binOp BinOp.eql 31 (.agg #[.string x.1, .int .i64 x.2.1, .string x.2.2]) (.agg #[.string a.1, .int .i64 a.2.1, .string a.2.2])).run Try.prog W = .ok (.bool (decide (x = a))) W := by
  obtain ⟨f1, f2, f3, h0, n1, n2, n3, t1, t2, t3, o1, o2, o3⟩ := fieldsAddL
  have c1 : Try.prog.cellsOf 9 = 1 := by kernel_rfl
  have c2 : Try.prog.cellsOf 3 = 1 := by kernel_rfl
  have e : decide (x = a) = ((x.1.toList == a.1.toList) && ((x.2.1 == a.2.1) && (x.2.2.toList == a.2.2.toList))) := by
    rw [bytesEq, bytesEq]
    obtain ⟨x1, x2, x3⟩ := x
    obtain ⟨a1, a2, a3⟩ := a
    rw [Bool.eq_iff_iff]
    simp [Prod.ext_iff]
  rw [e, run_eql_struct, run_equalIn_agg _ _ _ _ _ fieldsAdd heldAdd, h0]
  have m1 : f1.name ≠ "_" := by simpa using n1
  have m2 : f2.name ≠ "_" := by simpa using n2
  have m3 : f3.name ≠ "_" := by simpa using n3
  have p1 : (part f1.type #[.string x.1, .int .i64 x.2.1, .string x.2.2] f1.offset).run Try.prog W = .ok (.string x.1) W := by rw [t1, o1]; kernel_rfl
  have p2 : (part f2.type #[.string x.1, .int .i64 x.2.1, .string x.2.2] f2.offset).run Try.prog W = .ok (.int .i64 x.2.1) W := by rw [t2, o2]; kernel_rfl
  have p3 : (part f3.type #[.string x.1, .int .i64 x.2.1, .string x.2.2] f3.offset).run Try.prog W = .ok (.string x.2.2) W := by rw [t3, o3]; kernel_rfl
  have r1 : (part f1.type #[.string a.1, .int .i64 a.2.1, .string a.2.2] f1.offset).run Try.prog W = .ok (.string a.1) W := by rw [t1, o1]; kernel_rfl
  have r2 : (part f2.type #[.string a.1, .int .i64 a.2.1, .string a.2.2] f2.offset).run Try.prog W = .ok (.int .i64 a.2.1) W := by rw [t2, o2]; kernel_rfl
  have r3 : (part f3.type #[.string a.1, .int .i64 a.2.1, .string a.2.2] f3.offset).run Try.prog W = .ok (.string a.2.2) W := by rw [t3, o3]; kernel_rfl
  have q1 := run_equalIn_string (P := Try.prog) W 9998 f1.type x.1 a.1 (by rw [t1]; exact Try.underlying9)
  have q2 := run_equalIn_int (P := Try.prog) W 9998 f2.type .i64 .i64 x.2.1 a.2.1 (by rw [t2]; exact Try.underlying3)
  have q3 := run_equalIn_string (P := Try.prog) W 9998 f3.type x.2.2 a.2.2 (by rw [t3]; exact Try.underlying9)
  simp only [Op.eqFields, if_pos m1, if_pos m2, if_pos m3, Sem.run_bind, p1, p2, p3, r1, r2, r3, Result.andThen_ok, Nat.reduceAdd] at q1 q2 q3 ⊢
  rw [q1]
  cases g1 : (x.1.toList == a.1.toList) with
  | false => simp [Result.andThen]
  | true =>
    simp only [Result.andThen_ok, Sem.run_ite, Bool.not_true, Bool.false_eq_true, if_false, Sem.run_bind, p2, r2, p3, r3]
    rw [q2]
    cases g2 : (x.2.1 == a.2.1) with
    | false => simp [Result.andThen]
    | true =>
      simp only [Result.andThen_ok, Sem.run_ite, Bool.not_true, Bool.false_eq_true, if_false, Sem.run_bind, p3, r3]
      rw [q3]
      cases g3 : (x.2.2.toList == a.2.2.toList) with
      | false => simp [Result.andThen]
      | true => simp [Result.andThen]
end Go.Proofs.Ytcnddbcdkpdkbaa

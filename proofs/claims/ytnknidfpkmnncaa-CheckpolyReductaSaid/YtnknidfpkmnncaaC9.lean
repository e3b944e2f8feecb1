/- Two exponent vectors held against each other by '==', and by '!='. -/
import Derived.Test.YtnknidfpkmnncaaC7
import Derived.Laws.StructEq
namespace Go.Proofs.Ytnknidfpkmnncaa
open Go.RowKit

theorem eqInt (a b : Int) (w : World) (d : Nat) : (Op.equalIn (d + 1) 3 (.int .i64 a) (.int .i64 b)).run Try.prog w = .ok (a == b) w := run_equalIn_int w d 3 .i64 .i64 a b Try.underlying3
theorem sizeInt (w : World) : (sizeOf 3).run Try.prog w = .ok 1 w := by kernel_rfl
theorem pt0 (a b c d : Int) (w : World) : (part 3 #[Value.int IntKind.i64 a, Value.int IntKind.i64 b, Value.int IntKind.i64 c, Value.int IntKind.i64 d] 0).run Try.prog w = .ok (.int .i64 a) w := by kernel_rfl
theorem pt1 (a b c d : Int) (w : World) : (part 3 #[Value.int IntKind.i64 a, Value.int IntKind.i64 b, Value.int IntKind.i64 c, Value.int IntKind.i64 d] 1).run Try.prog w = .ok (.int .i64 b) w := by kernel_rfl
theorem pt2 (a b c d : Int) (w : World) : (part 3 #[Value.int IntKind.i64 a, Value.int IntKind.i64 b, Value.int IntKind.i64 c, Value.int IntKind.i64 d] 2).run Try.prog w = .ok (.int .i64 c) w := by kernel_rfl
theorem pt3 (a b c d : Int) (w : World) : (part 3 #[Value.int IntKind.i64 a, Value.int IntKind.i64 b, Value.int IntKind.i64 c, Value.int IntKind.i64 d] 3).run Try.prog w = .ok (.int .i64 d) w := by kernel_rfl
theorem eqInEx (a b c d a2 b2 c2 d2 : Int) (w : World) : (Op.equalIn 10000 34 (.agg #[.int .i64 a, .int .i64 b, .int .i64 c, .int .i64 d]) (.agg #[.int .i64 a2, .int .i64 b2, .int .i64 c2, .int .i64 d2])).run Try.prog w = .ok (a == a2 && (b == b2 && (c == c2 && d == d2))) w := by
  unfold Op.equalIn
  simp only [Sem.run_bind, run_underlying Try.underlying34, Result.andThen_ok, sizeInt]
  rw [Std.Legacy.Range.forIn_eq_forIn_range']
  have hr : List.range' ({ stop := 4, step_pos := by decide } : Std.Legacy.Range).start ({ stop := 4, step_pos := by decide } : Std.Legacy.Range).size ({ stop := 4, step_pos := by decide } : Std.Legacy.Range).step = [0, 1, 2, 3] := by decide
  rw [hr]
  simp only [List.forIn_cons, List.forIn_nil, Sem.run_bind, Nat.mul_one, pt0, pt1, pt2, pt3, Result.andThen_ok, eqInt]
  by_cases h0 : a = a2 <;> by_cases h1 : b = b2 <;> by_cases h2 : c = c2 <;> by_cases h3 : d = d2 <;>
    simp [Sem.run_pure, Sem.run_bind, Nat.mul_one, pt0, pt1, pt2, pt3, Result.andThen_ok, eqInt, h0, h1, h2, h3]
theorem eq_ex (e f : Ex) (w : World) : (binOp .eql 34 (.agg #[.int .i64 e.1, .int .i64 e.2.1, .int .i64 e.2.2.1, .int .i64 e.2.2.2]) (.agg #[.int .i64 f.1, .int .i64 f.2.1, .int .i64 f.2.2.1, .int .i64 f.2.2.2])).run Try.prog w = .ok (.bool (e == f)) w := by
  obtain ⟨a, b, c, d⟩ := e
  obtain ⟨a2, b2, c2, d2⟩ := f
  rw [run_eql_struct, eqInEx]
  rfl
theorem neq_ex (e f : Ex) (w : World) : (binOp .neq 34 (.agg #[.int .i64 e.1, .int .i64 e.2.1, .int .i64 e.2.2.1, .int .i64 e.2.2.2]) (.agg #[.int .i64 f.1, .int .i64 f.2.1, .int .i64 f.2.2.1, .int .i64 f.2.2.2])).run Try.prog w = .ok (.bool (!(e == f))) w := by
  obtain ⟨a, b, c, d⟩ := e
  obtain ⟨a2, b2, c2, d2⟩ := f
  rw [run_neq_struct, eqInEx]
  rfl
theorem guard_ex (op : BinOp) (e f : Array Value) (x y : Operand) (w : World) : (eqGuard op 34 x y (.agg e) (.agg f)).run Try.prog w = .ok () w := run_eqGuard_agg _ _ _ _ _ _ _ (by kernel_rfl)
end Go.Proofs.Ytnknidfpkmnncaa

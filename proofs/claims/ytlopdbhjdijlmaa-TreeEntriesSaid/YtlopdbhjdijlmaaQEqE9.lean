/-
  Two equal entries are not unequal. No condition.
-/
import Derived.Test.YtlopdbhjdijlmaaQTree9M
import Derived.Laws.StructEq

namespace Go.Proofs.Ytlopdbhjdijlmaa
open Go.ChangeShapes Go.WideShapes Go.ChangeAt Go.RowKit
set_option linter.unusedSimpArgs false
set_option linter.unusedVariables false

theorem eqE_run (nm : ByteArray) (i : Int) (w : World) :
    (Op.equalIn 10000 27 (.agg #[.string nm, .int .i64 i]) (.agg #[.string nm, .int .i64 i])).run Try.prog w = .ok true w := by
  have hS : Try.prog.underlying 27 = some (.struct (Try.prog.fieldsOf 27)) := by kernel_rfl
  have hp : Try.prog.stoodInHeld 27 = false := by kernel_rfl
  rw [show (10000 : Nat) = 9999 + 1 from rfl, run_equalIn_struct w 9999 27 _ _ hS hp]
  simp only [Program.fieldsOf, Try.underlying27]
  go_simp
theorem neqE_run (nm : ByteArray) (i : Int) (w : World) :
    (binOp .neq 27 (.agg #[.string nm, .int .i64 i]) (.agg #[.string nm, .int .i64 i])).run Try.prog w = .ok (.bool false) w := by
  have h := eqE_run nm i w
  simp only [binOp]
  simp [Op.equal, Op.maxDepth, h]
end Go.Proofs.Ytlopdbhjdijlmaa

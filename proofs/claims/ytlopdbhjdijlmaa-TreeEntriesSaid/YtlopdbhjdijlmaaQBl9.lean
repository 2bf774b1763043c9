/-
  Texts by their bytes: the order. Plain: nothing is assumed.
-/
import Derived.Test.YtlopdbhjdijlmaaQInsM

namespace Go.Proofs.Ytlopdbhjdijlmaa
set_option linter.unusedSimpArgs false
set_option linter.unusedVariables false

theorem blq_eq : ∀ (x y : List UInt8), Op.bytesLess x y = decide (x < y)
  | [], [] => by simp [Op.bytesLess]
  | _ :: _, [] => by simp [Op.bytesLess]
  | [], _ :: _ => by simp [Op.bytesLess]
  | a :: x, b :: y => by
    rw [Op.bytesLess, blq_eq x y]
    simp only [List.cons_lt_cons_iff]
    by_cases h1 : a < b <;> by_cases h2 : a = b <;> by_cases h3 : x < y <;> simp [h1, h2, h3]
theorem blq_irrefl (x : List UInt8) : Op.bytesLess x x = false := by rw [blq_eq]; exact decide_eq_false (List.lt_irrefl x)
theorem blq_trans {x y z : List UInt8} (h1 : Op.bytesLess x y = true) (h2 : Op.bytesLess y z = true) : Op.bytesLess x z = true := by
  rw [blq_eq] at *
  exact decide_eq_true (List.lt_trans (of_decide_eq_true h1) (of_decide_eq_true h2))
theorem blq_asymm {x y : List UInt8} (h1 : Op.bytesLess x y = true) : Op.bytesLess y x = false := by
  rw [blq_eq] at *
  exact decide_eq_false (List.lt_asymm (of_decide_eq_true h1))
theorem blq_total {x y : List UInt8} (h1 : Op.bytesLess x y = false) (h2 : (x == y) = false) : Op.bytesLess y x = true := by
  rw [blq_eq] at *
  refine decide_eq_true ?_
  have h1 := of_decide_eq_false h1
  have h2 : x ≠ y := by simpa using h2
  exact Classical.byContradiction fun h3 => h2 (List.le_antisymm (List.not_lt.1 h3) (List.not_lt.1 h1))


end Go.Proofs.Ytlopdbhjdijlmaa

/-
  A memory of noughts: plain lemmas.
-/
import Derived.Test.YtfpnmphmngdkdaaPm6
namespace Go.Proofs.Ytfpnmphmngdkdaa
set_option linter.unusedVariables false

theorem new_n (k : Nat) (h : k ≤ 10000) : (Pm.new (List.replicate k 0)).n = k := by
  show min (List.replicate k (0 : Int)).length 10000 = k
  rw [List.length_replicate]; omega

theorem new_may (k : Nat) (h : k ≤ 10000) (i : Int) : (Pm.new (List.replicate k 0)).may i = if i < 0 ∨ (k : Int) ≤ i then 1 else 0 := by
  unfold Pm.may
  rw [new_n k h]
  rfl

theorem new_load (k : Nat) (i : Int) : (Pm.new (List.replicate k 0)).load i = 0 := by
  unfold Pm.load
  split
  · show (List.replicate k (0 : Int)).getD i.toNat 0 = 0
    rw [List.getD_eq_getElem?_getD, List.getElem?_replicate]
    split <;> rfl
  · rfl

end Go.Proofs.Ytfpnmphmngdkdaa

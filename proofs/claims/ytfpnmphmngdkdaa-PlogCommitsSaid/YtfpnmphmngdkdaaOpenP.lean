/-
  Arguments, opened: a slice of pairs. No condition.
-/
import Derived.Test.YtfpnmphmngdkdaaOpen2
import Derived.Test.YtfpnmphmngdkdaaPlog1
namespace Go.Proofs.Ytfpnmphmngdkdaa
open Go.ChangeShapes Go.WideShapes Go.ChangeAt Go.RowKit Go.Deep
set_option linter.unusedSimpArgs false
set_option linter.unusedVariables false

set_option maxRecDepth 100000 in
theorem open_pairs {H : Type} {enc : TypeId × Value → H} {W : World} {r : Reach} {base b0 : Nat} {sp : Nat → Bool} {held : Bool} {v : Value} {d : DataW H} {p : List MemPlace}
    (hok : Value.okWide Try.prog W r b0 23 v) (h : DataW.Trod enc Try.prog W base sp held 23 v d p) :
    ∃ ps : List (Int × Int), HoldsL W v ps ∧ Word64 ps := by
  obtain ⟨ao, len, cap, rfl, h1, h2, h3, h4⟩ := open_rows Try.underlying23 Try.underlying50 (by kernel_rfl) (by kernel_rfl) (Nat.zero_lt_succ _) hok h
  obtain ⟨l, hl, hp⟩ := list_of (0, 0) (P := fun j (x : Int × Int) => (∃ g o, ao = some ⟨g, o, none⟩ ∧ W.cell? ⟨g, o + j * 2, none⟩ = some (.int .i64 x.1) ∧ W.cell? ⟨g, o + j * 2 + 1, none⟩ = some (.int .u64 x.2)) ∧ (-9223372036854775808 ≤ x.1 ∧ x.1 ≤ 9223372036854775807) ∧ 0 ≤ x.2 ∧ x.2 < 18446744073709551616) len (by
    intro j hj
    obtain ⟨g, o, ha, hc⟩ := h4 j hj
    obtain ⟨c0, y0, n0, e0, t0⟩ := hc 0 _ rfl
    obtain ⟨c1, y1, n1, e1, t1⟩ := hc 1 _ rfl
    obtain ⟨z0, rfl, w0⟩ := int_of Try.underlying3 t0
    obtain ⟨z1, rfl, w1⟩ := int_of Try.underlying41 t1
    exact ⟨(z0, z1), ⟨g, o, ha, e0, e1⟩, wf_i64 w0, wf_u64 w1⟩)
  rw [← hl] at hp h1 h3 ⊢
  refine ⟨l, ⟨ao, cap, rfl, h1, h2, fun j hj => (hp j hj).1⟩, fun x hx => ?_⟩
  obtain ⟨i, hi, rfl⟩ := List.getElem_of_mem hx
  have := (hp i hi).2
  rw [List.getD_eq_getElem?_getD, List.getElem?_eq_getElem hi] at this
  exact this
end Go.Proofs.Ytfpnmphmngdkdaa

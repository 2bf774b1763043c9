/-
  Arguments, opened: an entry, by value. No condition.
-/
import Derived.Test.YtlopdbhjdijlmaaQOpenIno

namespace Go.Proofs.Ytlopdbhjdijlmaa
open Go.ChangeShapes Go.WideShapes Go.ChangeAt Go.RowKit Go.Deep
set_option linter.unusedSimpArgs false
set_option linter.unusedVariables false

theorem list2e {α : Type} : ∀ (l : List α), l.length = 2 → ∃ x0 x1, l = [x0, x1]
  | [x0, x1], _ => ⟨x0, x1, rfl⟩

set_option maxRecDepth 100000 in
theorem open_en {H : Type} {enc : TypeId × Value → H} {W : World} {r : Reach} {base b0 : Nat} {sp : Nat → Bool} {held : Bool} {v : Value} {d : DataW H} {p : List MemPlace}
    (hok : Value.okWide Try.prog W r b0 27 v) (h : DataW.Trod enc Try.prog W base sp held 27 v d p) :
    ∃ x : En, v = .agg #[.string x.name, .int .i64 x.ino] ∧ x.Ok := by
  obtain ⟨cs, rfl, hsz⟩ := okWide_struct Try.underlying27 hok
  have hc2 : Try.prog.cellsOf 27 = 2 := by kernel_rfl
  rw [hc2] at hsz
  obtain ⟨c0, c1, hcs⟩ := list2e cs.toList (by simpa using hsz)
  have hcs2 : cs = #[c0, c1] := by cases cs; simp_all
  subst hcs2
  obtain ⟨fuel, hf⟩ := h
  obtain ⟨xs, n, -, -, hlen, hxl, hfld⟩ := DataW.trod_struct Try.underlying27 hf
  have hx : ∀ j, j < 2 → ∃ y, xs[j]? = some y := fun j hj => ⟨xs[j]'(by rw [hxl]; exact hj), List.getElem?_eq_getElem (by rw [hxl]; exact hj)⟩
  obtain ⟨y0, e0⟩ := hx 0 (by omega)
  obtain ⟨y1, e1⟩ := hx 1 (by omega)
  have t0 := hfld 0 _ rfl
  have t1 := hfld 1 _ rfl
  rw [show Try.prog.cellsOf _ = 1 by kernel_rfl] at t0 t1
  rw [e0] at t0
  rw [e1] at t1
  obtain ⟨s, rfl, hs⟩ := string_of (c := c0) Try.underlying9 t0
  obtain ⟨z1, rfl, w1⟩ := int_of (c := c1) Try.underlying3 t1
  exact ⟨⟨s, z1⟩, rfl, ⟨hs, wf_i64 w1⟩⟩
end Go.Proofs.Ytlopdbhjdijlmaa

/-
  Arguments, opened: a call of imagoref01, by value. No condition.
-/
import Derived.Test.YtfpnmphmngdkdaaOp1
namespace Go.Proofs.Ytfpnmphmngdkdaa
open Go.ChangeShapes Go.WideShapes Go.ChangeAt Go.RowKit Go.Deep
set_option linter.unusedSimpArgs false
set_option linter.unusedVariables false

theorem list5 {α : Type} : ∀ (l : List α), l.length = 5 → ∃ x0 x1 x2 x3 x4, l = [x0, x1, x2, x3, x4]
  | [x0, x1, x2, x3, x4], _ => ⟨x0, x1, x2, x3, x4, rfl⟩

set_option maxRecDepth 100000 in
theorem open_op1 {H : Type} {enc : TypeId × Value → H} {W : World} {r : Reach} {base b0 : Nat} {sp : Nat → Bool} {held : Bool} {v : Value} {d : DataW H} {p : List MemPlace}
    (hok : Value.okWide Try.prog W r b0 69 v) (h : DataW.Trod enc Try.prog W base sp held 69 v d p) :
    ∃ (x : OpV) (kv : Value), v = .agg #[.int .u8 (x.kind : Nat), .int .i64 x.i, .int .i64 x.n, .int .u64 x.word, kv] ∧ x.Ok ∧ HoldsB W kv x.keep := by
  obtain ⟨cs, rfl, hsz⟩ := okWide_struct Try.underlying69 hok
  have hc5 : Try.prog.cellsOf 69 = 5 := by kernel_rfl
  rw [hc5] at hsz
  obtain ⟨c0, c1, c2, c3, c4, hcs⟩ := list5 cs.toList (by simpa using hsz)
  have hcs2 : cs = #[c0, c1, c2, c3, c4] := by cases cs; simp_all
  subst hcs2
  obtain ⟨fuel, hf⟩ := h
  obtain ⟨xs, n, -, -, hlen, hxl, hfld⟩ := DataW.trod_struct Try.underlying69 hf
  have hx : ∀ j, j < 5 → ∃ y, xs[j]? = some y := fun j hj => ⟨xs[j]'(by rw [hxl]; exact hj), List.getElem?_eq_getElem (by rw [hxl]; exact hj)⟩
  obtain ⟨y0, e0⟩ := hx 0 (by omega)
  obtain ⟨y1, e1⟩ := hx 1 (by omega)
  obtain ⟨y2, e2⟩ := hx 2 (by omega)
  obtain ⟨y3, e3⟩ := hx 3 (by omega)
  obtain ⟨y4, e4⟩ := hx 4 (by omega)
  have hone : oneCellFields Try.prog #[] = true := rfl
  have t0 := hfld 0 _ rfl
  have t1 := hfld 1 _ rfl
  have t2 := hfld 2 _ rfl
  have t3 := hfld 3 _ rfl
  have t4 := hfld 4 _ rfl
  rw [show Try.prog.cellsOf _ = 1 by kernel_rfl] at t0 t1 t2 t3 t4
  rw [e0] at t0
  rw [e1] at t1
  rw [e2] at t2
  rw [e3] at t3
  rw [e4] at t4
  obtain ⟨z0, rfl, w0⟩ := int_of (c := c0) Try.underlying5 t0
  obtain ⟨z1, rfl, w1⟩ := int_of (c := c1) Try.underlying3 t1
  obtain ⟨z2, rfl, w2⟩ := int_of (c := c2) Try.underlying3 t2
  obtain ⟨z3, rfl, w3⟩ := int_of (c := c3) Try.underlying41 t3
  obtain ⟨k, hk⟩ := bytes_of (c := c4) Try.underlying65 Try.underlying5 (by kernel_rfl) t4
  obtain ⟨a0, a1⟩ := wf_u8 w0
  obtain ⟨m0, rfl⟩ := Int.eq_ofNat_of_zero_le a0
  exact ⟨⟨m0, z1, z2, z3, k⟩, c4, rfl, ⟨by simp only; omega, wf_i64 w1, wf_i64 w2, wf_u64 w3⟩, hk⟩
end Go.Proofs.Ytfpnmphmngdkdaa

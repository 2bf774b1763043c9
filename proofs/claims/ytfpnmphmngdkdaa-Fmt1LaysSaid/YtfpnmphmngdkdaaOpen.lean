/-
  Arguments, opened: a slice of words. General lemmas (no function of the program).
-/
import Derived.Test.YtfpnmphmngdkdaaLaw
import Derived.Test.YtfpnmphmngdkdaaTx2
namespace Go.Proofs.Ytfpnmphmngdkdaa
open Go.ChangeShapes Go.WideShapes Go.ChangeAt Go.RowKit
set_option linter.unusedSimpArgs false
set_option linter.unusedVariables false

theorem cellsU64 : Try.prog.cellsOf 41 = 1 := by kernel_rfl

theorem wf_u64 {z : Int} (h : (Lit.int .u64 z).wf = true) : 0 ≤ z ∧ z < 18446744073709551616 := by
  have := h
  simp only [Lit.wf, IntKind.min, IntKind.max, IntKind.signed, IntKind.bits, Bool.and_eq_true, decide_eq_true_eq] at this
  simp at this
  omega

theorem wf_u8 {z : Int} (h : (Lit.int .u8 z).wf = true) : 0 ≤ z ∧ z < 256 := by
  have := h
  simp only [Lit.wf, IntKind.min, IntKind.max, IntKind.signed, IntKind.bits, Bool.and_eq_true, decide_eq_true_eq] at this
  simp at this
  omega

theorem wf_i64 {z : Int} (h : (Lit.int .i64 z).wf = true) : -9223372036854775808 ≤ z ∧ z ≤ 9223372036854775807 := by
  have := h
  simp only [Lit.wf, IntKind.min, IntKind.max, IntKind.signed, IntKind.bits, Bool.and_eq_true, decide_eq_true_eq] at this
  simp at this
  omega

set_option maxRecDepth 100000 in
theorem open_u64s {H : Type} {enc : TypeId × Value → H} {W : World} {r : Reach} {base b0 : Nat} {sp : Nat → Bool} {held : Bool} {v : Value} {d : DataW H} {p : List MemPlace}
    (hok : Value.okWide Try.prog W r b0 53 v) (h : DataW.Trod enc Try.prog W base sp held 53 v d p) :
    ∃ xs : List Int, HoldsU W v xs ∧ ∀ z ∈ xs, 0 ≤ z ∧ z < 18446744073709551616 := by
  obtain ⟨a0, len, cap, rfl⟩ := okWide_slice Try.underlying53 hok
  obtain ⟨fuel, hf⟩ := h
  rcases open_ints Try.underlying53 Try.underlying41 cellsU64 hf with ⟨hcs, _⟩ | ⟨a, len', cap', zs, hcs, _, hl, hm, hz, _, hcell, hwz⟩
  · simp [Value.cells] at hcs
    obtain ⟨rfl, rfl, rfl⟩ := hcs
    exact ⟨[], HoldsU.nil _, by simp⟩
  · simp [Value.cells] at hcs
    obtain ⟨rfl, rfl, rfl⟩ := hcs
    have hlz : len ≤ zs.length := by rw [hz]; split <;> omega
    have e : (zs.take len).length = len := by simp; omega
    refine ⟨zs.take len, ⟨some a, cap, by rw [e], (by intro h; cases h), by rw [e]; exact hl, hm, ?_⟩, fun z hz2 => wf_u64 (hwz z (List.mem_of_mem_take hz2))⟩
    intro ad ha j u hu
    simp only [Option.some.injEq] at ha
    subst ha
    have hj : j < len := by
      have := (List.getElem?_eq_some_iff.1 hu).1
      simp [u64s] at this
      omega
    rw [hcell j (by omega), ← hu]
    have hj2 : j < zs.length := by omega
    simp [u64s, hj, hj2, List.getElem?_take]

theorem toNats (xs : List Int) (h : ∀ z ∈ xs, 0 ≤ z ∧ z < 18446744073709551616) : ∃ l : List Nat, xs = l.map (fun n : Nat => (n : Int)) ∧ ∀ x ∈ l, x < 18446744073709551616 := by
  refine ⟨xs.map Int.toNat, ?_, ?_⟩
  · rw [List.map_map]
    apply List.ext_getElem (by simp)
    intro i h1 h2
    have := h _ (List.getElem_mem h1)
    simp
    omega
  · intro x hx
    obtain ⟨z, hz, rfl⟩ := List.mem_map.1 hx
    have := h z hz
    omega
end Go.Proofs.Ytfpnmphmngdkdaa

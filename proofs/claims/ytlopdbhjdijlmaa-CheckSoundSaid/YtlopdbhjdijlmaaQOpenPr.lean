/-
  Slices of pairs that are handed in: what they hold; opened. No condition.
-/
import Derived.Test.YtlopdbhjdijlmaaQLaw
import Derived.Test.YtlopdbhjdijlmaaQShStep

namespace Go.Proofs.Ytlopdbhjdijlmaa
open Go.ChangeShapes Go.WideShapes Go.ChangeAt Go.RowKit Go.Deep
set_option linter.unusedSimpArgs false
set_option linter.unusedVariables false

def HoldsPr (w : World) (v : Value) (l : List (Int × Int)) : Prop :=
  ∃ ao c, v = .slice ao l.length c ∧ l.length ≤ c ∧ c ≤ maxLen ∧ ∀ j, j < l.length → ∃ g o, ao = some ⟨g, o, none⟩ ∧ w.cell? ⟨g, o + j * 2, none⟩ = some (.int .i64 (l.getD j (0, 0)).1) ∧ w.cell? ⟨g, o + j * 2 + 1, none⟩ = some (.int .u64 (l.getD j (0, 0)).2)

theorem HoldsPr.mod {w w' : World} {v : Value} {l : List (Int × Int)} (h : HoldsPr w v l) {D : Nat → Prop} (hm : Mod D w w') (hd : l ≠ [] → ∀ g, v.ownBlock = some g → ¬ D g) : HoldsPr w' v l := by
  obtain ⟨ao, c, rfl, h1, h2, h4⟩ := h
  refine ⟨ao, c, rfl, h1, h2, fun j hj => ?_⟩
  obtain ⟨g, o, rfl, e1, e2⟩ := h4 j hj
  have hn := hd (fun e => by rw [e] at hj; simp at hj) g rfl
  exact ⟨g, o, rfl, hm.cell e1 hn, hm.cell e2 hn⟩

theorem HoldsPr.lt {w : World} {v : Value} {l : List (Int × Int)} (h : HoldsPr w v l) (hl : l ≠ []) : ∀ g, v.ownBlock = some g → g < w.heap.size := by
  obtain ⟨ao, c, rfl, h1, h2, h4⟩ := h
  obtain ⟨g, o, rfl, hc, -⟩ := h4 0 (List.length_pos_iff.2 hl)
  intro g' e
  cases e
  exact World.block_lt_of_cell? w _ hc

def PrOk (l : List (Int × Int)) : Prop := ∀ j, j < l.length → (-9223372036854775808 ≤ (l.getD j (0, 0)).1 ∧ (l.getD j (0, 0)).1 ≤ 9223372036854775807) ∧ 0 ≤ (l.getD j (0, 0)).2 ∧ (l.getD j (0, 0)).2 < 18446744073709551616

set_option maxRecDepth 100000 in
theorem open_prs {H : Type} {enc : TypeId × Value → H} {W : World} {r : Reach} {base b0 : Nat} {sp : Nat → Bool} {held : Bool} {v : Value} {d : DataW H} {p : List MemPlace}
    (hok : Value.okWide Try.prog W r b0 63 v) (h : DataW.Trod enc Try.prog W base sp held 63 v d p) :
    ∃ ps : List (Int × Int), HoldsPr W v ps ∧ PrOk ps := by
  obtain ⟨ao, len, cap, rfl, h1, h2, h3, h4⟩ := open_rows Try.underlying63 Try.underlying67 (by kernel_rfl) (by kernel_rfl) (Nat.zero_lt_succ _) hok h
  obtain ⟨l, hl, hp⟩ := list_of (0, 0) (P := fun j (x : Int × Int) => (∃ g o, ao = some ⟨g, o, none⟩ ∧ W.cell? ⟨g, o + j * 2, none⟩ = some (.int .i64 x.1) ∧ W.cell? ⟨g, o + j * 2 + 1, none⟩ = some (.int .u64 x.2)) ∧ (-9223372036854775808 ≤ x.1 ∧ x.1 ≤ 9223372036854775807) ∧ 0 ≤ x.2 ∧ x.2 < 18446744073709551616) len (by
    intro j hj
    obtain ⟨g, o, ha, hc⟩ := h4 j hj
    obtain ⟨c0, y0, n0, e0, t0⟩ := hc 0 _ rfl
    obtain ⟨c1, y1, n1, e1, t1⟩ := hc 1 _ rfl
    obtain ⟨z0, rfl, w0⟩ := int_of Try.underlying3 t0
    obtain ⟨z1, rfl, w1⟩ := int_of Try.underlying37 t1
    exact ⟨(z0, z1), ⟨g, o, ha, e0, e1⟩, wf_i64 w0, wf_u64 w1⟩)
  rw [← hl] at hp h1 h3 ⊢
  exact ⟨l, ⟨ao, cap, rfl, h1, h2, fun j hj => (hp j hj).1⟩, fun j hj => (hp j hj).2⟩
end Go.Proofs.Ytlopdbhjdijlmaa

/-
  Rows of pairs as cells: general lemmas. No walk here.
-/
import Derived.Test.YtfpnmphmngdkdaaLib
namespace Go.Proofs.Ytfpnmphmngdkdaa
open Go.ChangeShapes Go.WideShapes Go.ChangeAt Go.RowKit
set_option linter.unusedSimpArgs false
set_option linter.unusedVariables false

/-- What a slice value of pairs holds, in whatever block. -/
def HoldsP (w : World) (v : Value) (ps : List (Int × Int)) : Prop :=
  ∃ ao c, v = .slice ao ps.length c ∧ ∀ j, j < ps.length → ∃ g, ao = some ⟨g, 0, none⟩ ∧ w.cell? ⟨g, j * 2, none⟩ = some (.int .i64 (ps.getD j (0, 0)).1) ∧ w.cell? ⟨g, j * 2 + 1, none⟩ = some (.int .u64 (ps.getD j (0, 0)).2)

def cellsI (ps : List (Int × Int)) : List Value := ps.flatMap fun x => [Value.int .i64 x.1, .int .u64 x.2]

theorem cellsI_append (a b : List (Int × Int)) : cellsI (a ++ b) = cellsI a ++ cellsI b := by simp [cellsI]

theorem cellsI_len (l : List (Int × Int)) : (cellsI l).length = l.length * 2 := by
  induction l with
  | nil => rfl
  | cons x l ih =>
    have : cellsI (x :: l) = [.int .i64 x.1, .int .u64 x.2] ++ cellsI l := rfl
    rw [this, List.length_append, ih]
    simp; omega

theorem cellsI_len' (l : List (Int × Int)) (m : Nat) (h : m = l.length) : (cellsI l).length = m * 2 := by rw [cellsI_len, h]

theorem cellsI_one (l : List (Int × Int)) : ∀ u ∈ cellsI l, u.oneCell' = true := by
  intro u hu
  unfold cellsI at hu
  rw [List.mem_flatMap] at hu
  obtain ⟨x, _, hu⟩ := hu
  simp at hu
  rcases hu with rfl | rfl <;> rfl

theorem cellsI_split (l : List (Int × Int)) (k : Nat) (hk : k < l.length) : cellsI l = cellsI (l.take k) ++ ([.int .i64 (l.getD k (0, 0)).1, .int .u64 (l.getD k (0, 0)).2] ++ cellsI (l.drop (k + 1))) := by
  have hx : l.getD k (0, 0) = l[k] := by rw [List.getD_eq_getElem?_getD, List.getElem?_eq_getElem hk]; rfl
  have hsp : l = l.take k ++ l[k] :: l.drop (k + 1) := by rw [List.getElem_cons_drop, List.take_append_drop]
  rw [hx]
  exact (congrArg cellsI hsp).trans (cellsI_append _ _)

theorem holdsP_of_own {w : World} {base m : Nat} {v : Value} {ps : List (Int × Int)} (hm : m = ps.length) (h : w.ownsRow base 50 2 v m (cellsI ps)) : HoldsP w v ps := by
  obtain ⟨ao, cap, rfl, -, -, -⟩ := own_shape h
  refine ⟨ao, cap, by rw [hm], fun k hk => ?_⟩
  obtain ⟨g, cap', e, -, -, -, -⟩ := own_some h (by omega)
  simp only [Value.slice.injEq] at e
  obtain ⟨rfl, -, rfl⟩ := e
  have htk : (ps.take k).length = k := by simp; omega
  have hcs := cellsI_split ps k hk
  refine ⟨g, rfl, ?_, ?_⟩
  · have := h.cells rfl (k * 2) (.int .i64 (ps.getD k (0, 0)).1) (by rw [hcs, List.getElem?_append_right (by rw [cellsI_len, htk]; omega), cellsI_len, htk, Nat.sub_self]; rfl)
    rwa [Addr.add_lit, Nat.zero_add] at this
  · have := h.cells rfl (k * 2 + 1) (.int .u64 (ps.getD k (0, 0)).2) (by rw [hcs, List.getElem?_append_right (by rw [cellsI_len, htk]; omega), cellsI_len, htk, Nat.add_sub_cancel_left]; rfl)
    rwa [Addr.add_lit, Nat.zero_add] at this

end Go.Proofs.Ytfpnmphmngdkdaa

/-
  Bytes in a slice that is handed in. No condition.
-/
import Derived.Test.YtfpnmphmngdkdaaOpen2
namespace Go.Proofs.Ytfpnmphmngdkdaa
open Go.ChangeShapes Go.WideShapes Go.ChangeAt Go.RowKit Go.Deep
set_option linter.unusedSimpArgs false
set_option linter.unusedVariables false

/-- Bytes in a slice that is handed in. -/
def HoldsB (w : World) (v : Value) (l : List Nat) : Prop :=
  ∃ ao cap, v = .slice ao l.length cap ∧ l.length ≤ cap ∧ cap ≤ maxLen ∧ ∀ j, j < l.length → (∃ g o, ao = some ⟨g, o, none⟩ ∧ w.cell? ⟨g, o + j, none⟩ = some (.int .u8 (l.getD j 0 : Nat))) ∧ l.getD j 0 < 256

theorem HoldsB.nil (w : World) : HoldsB w (.slice none 0 0) [] := ⟨none, 0, rfl, Nat.le_refl _, Nat.zero_le _, fun j h => by simp at h⟩

theorem HoldsB.mod {w w' : World} {v : Value} {l : List Nat} (h : HoldsB w v l) {D : Nat → Prop} (hm : Mod D w w') (hd : l ≠ [] → ∀ g, v.ownBlock = some g → ¬ D g) : HoldsB w' v l := by
  obtain ⟨ao, cap, rfl, h1, h2, h3⟩ := h
  refine ⟨ao, cap, rfl, h1, h2, fun j hj => ?_⟩
  obtain ⟨⟨g, o, rfl, hc⟩, hlt⟩ := h3 j hj
  exact ⟨⟨g, o, rfl, hm.cell hc (hd (fun e => by rw [e] at hj; simp at hj) g rfl)⟩, hlt⟩

theorem HoldsB.lt {w : World} {v : Value} {l : List Nat} (h : HoldsB w v l) (hl : l ≠ []) : ∀ g, v.ownBlock = some g → g < w.heap.size := by
  obtain ⟨ao, cap, rfl, h1, h2, h3⟩ := h
  obtain ⟨⟨g, o, rfl, hc⟩, -⟩ := h3 0 (List.length_pos_iff.2 hl)
  intro g' e
  cases e
  exact World.block_lt_of_cell? w _ hc

theorem HoldsB.below {w w' : World} {v : Value} {l : List Nat} (h : HoldsB w v l) (hb : Below w.heap.size w w') : HoldsB w' v l :=
  h.mod (mod_of_below hb) (fun _ _ _ hd => hd)

theorem spot_of_add {w : World} {a : Addr} {v : Value} (h : w.cell? (a.add 0) = some v) : a = ⟨a.block, a.off, none⟩ := by
  have h2 := spot_none h
  simpa [Addr.add] using h2

/-- A cell that reads as a slice of bytes. -/
theorem bytes_of {H : Type} {enc : TypeId × Value → H} {P : Program} {w : World} {base : Nat} {sp : Nat → Bool} {held : Bool} {t e : TypeId} {n : Nat} {c : Value} {y : DataW H × List MemPlace} (ht : P.underlying t = some (.slice e)) (he : P.underlying e = some (.int .u8)) (hc : P.cellsOf e = 1)
    (h : DataW.trod enc P w base sp held n t [c] = some y) : ∃ l : List Nat, HoldsB w c l := by
  rcases open_ints ht he hc h with ⟨hcs, -⟩ | ⟨a, len, cap, zs, hcs, -, hl, hm, hz, -, hcell, hwz⟩
  · simp at hcs
    subst hcs
    exact ⟨[], HoldsB.nil _⟩
  · simp at hcs
    subst hcs
    have hlz : len ≤ zs.length := by rw [hz]; split <;> omega
    have hb : ∀ z ∈ zs, 0 ≤ z ∧ z < 256 := fun z hz => wf_u8 (hwz z hz)
    have hlen : ((zs.take len).map Int.toNat).length = len := by simp; omega
    refine ⟨(zs.take len).map Int.toNat, some a, cap, by rw [hlen], by rw [hlen]; exact hl, hm, fun j hj => ?_⟩
    rw [hlen] at hj
    have hc0 := hcell 0 (by omega)
    have ha := spot_of_add hc0
    have hcj := hcell j (by omega)
    have hz2 := hb _ (List.getElem_mem (show j < zs.length by omega))
    have e1 : zs.getD j 0 = zs[j]'(by omega) := by rw [List.getD_eq_getElem?_getD, List.getElem?_eq_getElem (by omega)]; rfl
    have e2 : ((zs.take len).map Int.toNat).getD j 0 = (zs[j]'(by omega)).toNat := by
      rw [List.getD_eq_getElem?_getD, List.getElem?_map, List.getElem?_take, if_pos hj, List.getElem?_eq_getElem (by omega)]
      rfl
    rw [e2]
    refine ⟨⟨a.block, a.off, congrArg some ha, ?_⟩, by omega⟩
    have e3 : a.add j = ⟨a.block, a.off + j, none⟩ := by
      rw [ha]
      exact Addr.add_lit _ _ _
    rw [← e3, hcj, e1]
    congr 2
    omega
end Go.Proofs.Ytfpnmphmngdkdaa

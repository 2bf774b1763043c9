/-
  Words in a slice that the call owns: its cells, a word put. No condition.
-/
import Derived.Test.YtfpnmphmngdkdaaPlogRef
namespace Go.Proofs.Ytfpnmphmngdkdaa
open Go.ChangeShapes Go.WideShapes Go.ChangeAt Go.RowKit
set_option linter.unusedSimpArgs false
set_option linter.unusedVariables false

/-- A slice of n words that lies at the beginning of block g. -/
structure OwnW (w : World) (B g n c : Nat) (xs : List Int) : Prop where
  own : w.ownsRow B 41 1 (.slice (some ⟨g, 0, none⟩) n c) n (u64s xs)
  len : xs.length = n

theorem OwnW.mod {w w' : World} {B g n c : Nat} {xs : List Int} (h : OwnW w B g n c xs) {D : Nat → Prop} (hm : Mod D w w') (hd : ¬ D g) : OwnW w' B g n c xs :=
  ⟨hm.own h.own (fun g' e => by cases e; exact hd), h.len⟩

theorem OwnW.lt {w : World} {B g n c : Nat} {xs : List Int} (h : OwnW w B g n c xs) : g < w.heap.size ∧ B ≤ g ∧ n ≤ c ∧ c ≤ maxLen := by
  rcases h.own.2 with ⟨hv, _⟩ | ⟨g', cap', cur, hv, h1, h2, h3, h4, _⟩
  · cases hv
  · cases hv
    exact ⟨lt_of_block h2, h1, h3, h4⟩

theorem OwnW.cell {w : World} {B g n c : Nat} {xs : List Int} (h : OwnW w B g n c xs) {k : Nat} (hk : k < n) : w.cell? ⟨g, k, none⟩ = some (.int .u64 (xs.getD k 0)) ∧ w.frozen? ⟨g, k, none⟩ = false := by
  constructor
  · have hl := h.len
    have := h.own.cells rfl k (.int .u64 (xs.getD k 0)) (by
      unfold u64s
      rw [List.getElem?_map, List.getElem?_eq_getElem (by omega), List.getD_eq_getElem?_getD, List.getElem?_eq_getElem (by omega)]
      rfl)
    rw [Addr.add_lit, Nat.zero_add] at this
    exact this
  · rcases h.own.2 with ⟨hv, _⟩ | ⟨g', cap', cur, hv, h1, h2, _⟩
    · cases hv
    · cases hv
      exact frozen_of_row _ _ _ _ _ h2

theorem OwnW.set {w : World} {B g n c : Nat} {xs : List Int} (h : OwnW w B g n c xs) {k : Nat} (hk : k < n) (v : Int) : OwnW (w.setCell ⟨g, k, none⟩ (.int .u64 v)) B g n c (xs.set k v) :=
  ⟨by rw [← u64s_set]; exact own_set h.own hk, by rw [List.length_set]; exact h.len⟩

theorem OwnW.made {w1 : World} {base g n : Nat} (h : w1.ownsRow base 41 1 (.slice (some ⟨g, 0, none⟩) n n) n (madeCells (Value.int .u64 0).cells (n * 1)).toList) : OwnW w1 base g n n (List.replicate n 0) := by
  refine ⟨?_, List.length_replicate⟩
  have e2 : (madeCells (Value.int .u64 0).cells (n * 1)).toList = List.replicate n (Value.int .u64 0) := by
    rw [Nat.mul_one]
    exact toList_madeCells_one _ _
  rw [e2] at h
  have e : u64s (List.replicate n 0) = List.replicate n (Value.int .u64 0) := by unfold u64s; simp
  rw [e]
  exact h

theorem OwnW.holds {w : World} {B g n c : Nat} {xs : List Int} (h : OwnW w B g n c xs) : HoldsU w (.slice (some ⟨g, 0, none⟩) n c) xs :=
  holdsU_of_own (by rw [h.len]; exact h.own)
end Go.Proofs.Ytfpnmphmngdkdaa

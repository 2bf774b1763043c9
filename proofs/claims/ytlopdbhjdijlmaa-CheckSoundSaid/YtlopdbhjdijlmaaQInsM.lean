/-
  Where an entry is put among others; parts of entries' slices. Plain: nothing is assumed.
  Texts by their bytes: the order. Plain: nothing is assumed.
-/
import Derived.Test.YtlopdbhjdijlmaaQApp

namespace Go.Proofs.Ytlopdbhjdijlmaa
open Go.ChangeShapes Go.WideShapes Go.ChangeAt Go.RowKit
set_option linter.unusedSimpArgs false
set_option linter.unusedVariables false

def ltE (y x : En) : Bool := Op.bytesLess y.name.toList x.name.toList
def insK (l : List En) (x : En) : Nat := (l.takeWhile fun y => ltE y x).length
def insL (l : List En) (x : En) : List En := l.take (insK l x) ++ x :: l.drop (insK l x)

theorem insK_le (l : List En) (x : En) : insK l x ≤ l.length := by
  unfold insK
  induction l with
  | nil => simp
  | cons a l ih =>
    rw [List.takeWhile_cons]
    split
    · simpa using ih
    · simp
theorem insL_len (l : List En) (x : En) : (insL l x).length = l.length + 1 := by
  have := insK_le l x
  unfold insL
  rw [List.length_append, List.length_cons, List.length_take, List.length_drop]
  omega
theorem insK_eq (x : En) : ∀ (l : List En) (k : Nat), k ≤ l.length → (∀ j, j < k → ltE (l.getD j default) x = true) → (k < l.length → ltE (l.getD k default) x = false) → insK l x = k := by
  intro l
  induction l with
  | nil => intro k hk _ _; simp at hk; rw [hk]; rfl
  | cons a l ih =>
    intro k hk h1 h2
    unfold insK
    rw [List.takeWhile_cons]
    cases k with
    | zero =>
      have h := h2 (by simp)
      rw [show (a :: l).getD 0 default = a from rfl] at h
      simp [h]
    | succ k =>
      have h := h1 0 (by omega)
      rw [show (a :: l).getD 0 default = a from rfl] at h
      have h3 := ih k (by simpa using hk) (fun j hj => by have := h1 (j + 1) (by omega); simpa using this) (fun hk => by have := h2 (by simpa using hk); simpa using this)
      unfold insK at h3
      simp [h, h3]

theorem take_getDE (xs : List En) (q a : Nat) (h : a < q) : (xs.take q).getD a default = xs.getD a default := by
  rw [List.getD_eq_getElem?_getD, List.getElem?_take, if_pos h, List.getD_eq_getElem?_getD]
theorem HoldsE.take2 {w : World} {ao : Option Addr} {L c : Nat} {l : List En} (h : HoldsE w (.slice ao L c) l) (k : Nat) (hk : k ≤ l.length) : HoldsE w (.slice ao k c) (l.take k) := by
  obtain ⟨ao', c', e, h1, h2, h3, h4⟩ := h
  simp only [Value.slice.injEq] at e
  obtain ⟨rfl, rfl, rfl⟩ := e
  have hl : (l.take k).length = k := by rw [List.length_take]; omega
  refine ⟨ao, c, by rw [hl], by omega, h2, h3, fun j hj => ?_⟩
  rw [hl] at hj
  obtain ⟨g, o, e1, e2, e3⟩ := h4 j (by omega)
  exact ⟨g, o, e1, by rw [take_getDE _ _ _ hj]; exact e2, by rw [take_getDE _ _ _ hj]; exact e3⟩
theorem HoldsE.drop2 {w : World} {ao : Option Addr} {L c : Nat} {l : List En} (h : HoldsE w (.slice ao L c) l) (d : Nat) (hd : d ≤ l.length) : HoldsE w (.slice (ao.map fun x => x.add (d * 2)) (L - d) (c - d)) (l.drop d) := by
  obtain ⟨ao', c', e, h1, h2, h3, h4⟩ := h
  simp only [Value.slice.injEq] at e
  obtain ⟨rfl, rfl, rfl⟩ := e
  refine ⟨_, c - d, by rw [List.length_drop], by rw [List.length_drop]; omega, by omega, fun e => ?_, fun j hj => ?_⟩
  · cases ao with
    | none => have := h3 rfl; omega
    | some a => cases e
  · rw [List.length_drop] at hj
    obtain ⟨g, o, e1, e2, e3⟩ := h4 (d + j) (by omega)
    subst e1
    have hx : (l.drop d).getD j default = l.getD (d + j) default := by rw [List.getD_eq_getElem?_getD, List.getD_eq_getElem?_getD, List.getElem?_drop]
    refine ⟨g, o + d * 2, by rw [Option.map_some, Addr.add_lit], ?_, ?_⟩
    · rw [show o + d * 2 + j * 2 = o + (d + j) * 2 by omega, e2, hx]
    · rw [show o + d * 2 + j * 2 + 1 = o + (d + j) * 2 + 1 by omega, e3, hx]
theorem HoldsE.none2 {w : World} {ao : Option Addr} {L c : Nat} {l : List En} (h : HoldsE w (.slice ao L c) l) (hl : l = []) : HoldsE w (.slice ao 0 0) [] := by
  obtain ⟨ao', c', e, h1, h2, h3, h4⟩ := h
  exact ⟨ao, 0, rfl, Nat.le_refl _, Nat.zero_le _, fun _ => rfl, fun j hj => by simp at hj⟩

end Go.Proofs.Ytlopdbhjdijlmaa

namespace Go.Proofs.Ytlopdbhjdijlmaa
set_option linter.unusedSimpArgs false
set_option linter.unusedVariables false

theorem blq_eq : ∀ (x y : List UInt8), Op.bytesLess x y = decide (x < y)
  | [], [] => by simp [Op.bytesLess]
  | _ :: _, [] => by simp [Op.bytesLess]
  | [], _ :: _ => by simp [Op.bytesLess]
  | a :: x, b :: y => by
    rw [Op.bytesLess, blq_eq x y]
    simp only [List.cons_lt_cons_iff]
    by_cases h1 : a < b <;> by_cases h2 : a = b <;> by_cases h3 : x < y <;> simp [h1, h2, h3]
theorem blq_irrefl (x : List UInt8) : Op.bytesLess x x = false := by rw [blq_eq]; exact decide_eq_false (List.lt_irrefl x)
theorem blq_trans {x y z : List UInt8} (h1 : Op.bytesLess x y = true) (h2 : Op.bytesLess y z = true) : Op.bytesLess x z = true := by
  rw [blq_eq] at *
  exact decide_eq_true (List.lt_trans (of_decide_eq_true h1) (of_decide_eq_true h2))
theorem blq_asymm {x y : List UInt8} (h1 : Op.bytesLess x y = true) : Op.bytesLess y x = false := by
  rw [blq_eq] at *
  exact decide_eq_false (List.lt_asymm (of_decide_eq_true h1))
theorem blq_total {x y : List UInt8} (h1 : Op.bytesLess x y = false) (h2 : (x == y) = false) : Op.bytesLess y x = true := by
  rw [blq_eq] at *
  refine decide_eq_true ?_
  have h1 := of_decide_eq_false h1
  have h2 : x ≠ y := by simpa using h2
  exact Classical.byContradiction fun h3 => h2 (List.le_antisymm (List.not_lt.1 h3) (List.not_lt.1 h1))


end Go.Proofs.Ytlopdbhjdijlmaa

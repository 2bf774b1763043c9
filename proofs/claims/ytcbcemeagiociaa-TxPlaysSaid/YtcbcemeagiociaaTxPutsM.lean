/-
  Puts, played over a sheet, and what the reference says of them: plain law. No walk here.
-/
import Derived.Test.YtcbcemeagiociaaRef4
namespace Go.Proofs.Ytcbcemeagiociaa
set_option linter.unusedVariables false
set_option linter.unusedSimpArgs false

/-- Puts, one behind the other. -/
def Sh.puts (S : Sh) : List (Int × Int) → Sh
  | [] => S
  | x :: l => (S.put x.1 x.2).puts l

theorem Sh.puts_snoc (S : Sh) (l : List (Int × Int)) (x : Int × Int) : S.puts (l ++ [x]) = (S.puts l).put x.1 x.2 := by
  induction l generalizing S with
  | nil => rfl
  | cons y l ih => exact ih _

theorem undo_put (S : Sh) (i v : Int) (h : 0 ≤ i ∧ i < 3128) : (S.put i v).undo = S := by
  have e : S.put i v = { S with now := upd S.now i.toNat v, was := S.was ++ [(i.toNat, S.now i.toNat)] } := by
    unfold Sh.put
    rw [if_pos h]
  rw [e, undo_snoc (S := { S with now := upd S.now i.toNat v, was := S.was ++ [(i.toNat, S.now i.toNat)] }) rfl]
  have : upd (upd S.now i.toNat v) i.toNat (S.now i.toNat) = S.now := by
    funext k
    simp only [upd]
    split
    · rename_i h; rw [h]
    · rfl
  simp only [this]

/-- All puts in range. -/
def InR (l : List (Int × Int)) : Prop := ∀ x ∈ l, 0 ≤ x.1 ∧ x.1 < 3128

theorem puts_was (S : Sh) (l : List (Int × Int)) (h : InR l) : (S.puts l).was.length = S.was.length + l.length := by
  induction l generalizing S with
  | nil => rfl
  | cons x l ih =>
    have hx := h x (by simp)
    rw [Sh.puts, ih _ (fun y hy => h y (by simp [hy]))]
    unfold Sh.put
    rw [if_pos hx]
    simp
    omega

theorem undoN_puts (S : Sh) (n : Nat) : ∀ (l : List (Int × Int)), InR l → n ≤ l.length → (S.puts l).undoN n = S.puts (l.take (l.length - n)) := by
  induction n with
  | zero => intro l _ _; rw [Nat.sub_zero, List.take_length]; rfl
  | succ n ih =>
    intro l hl hn
    have hne : l ≠ [] := fun e => by rw [e] at hn; simp at hn
    obtain ⟨init, x, rfl⟩ : ∃ init x, l = init ++ [x] := ⟨_, _, (List.dropLast_concat_getLast hne).symm⟩
    rw [Sh.puts_snoc]
    show (((S.puts init).put x.1 x.2).undo).undoN n = _
    rw [undo_put _ _ _ (hl x (by simp)), ih init (fun y hy => hl y (by simp [hy])) (by simp at hn; omega)]
    congr 1
    rw [List.length_append, List.take_append_of_le_length (by simp only [List.length_singleton]; omega)]
    congr 1
    simp

theorem back_puts (ws : List Int) (l : List (Int × Int)) (h : InR l) (m : Int) : ((Sh.new ws).puts l).back m = (Sh.new ws).puts (l.take m.toNat) := by
  unfold Sh.back
  rw [puts_was _ _ h]
  have h0 : (Sh.new ws).was.length = 0 := rfl
  rw [h0, Nat.zero_add, undoN_puts _ _ _ h (by omega)]
  congr 1
  by_cases hm : m.toNat ≤ l.length
  · rw [show l.length - (l.length - m.toNat) = m.toNat by omega]
  · rw [show l.length - (l.length - m.toNat) = l.length by omega, List.take_length, List.take_of_length_le (by omega)]

theorem refFrom_snoc (ws : List Int) (l : List (Int × Int)) (x : Int × Int) (i : Int) (k : Nat) (h : k ≤ l.length) : refFrom ws (l ++ [x]) i k = refFrom ws l i k := by
  induction k with
  | zero => rfl
  | succ k ih =>
    simp only [refFrom]
    rw [ih (by omega)]
    have : (l ++ [x]).getD k (0, 0) = l.getD k (0, 0) := by
      rw [List.getD_eq_getElem?_getD, List.getD_eq_getElem?_getD, List.getElem?_append_left (by omega)]
    rw [this]

theorem snoc_ind {α : Type} {P : List α → Prop} (h0 : P []) (h1 : ∀ l x, P l → P (l ++ [x])) (l : List α) : P l := by
  have : ∀ n (l : List α), l.length = n → P l := by
    intro n
    induction n with
    | zero => intro l hl; rw [List.eq_nil_of_length_eq_zero hl]; exact h0
    | succ n ih =>
      intro l hl
      have hne : l ≠ [] := fun e => by rw [e] at hl; simp at hl
      rw [← List.dropLast_concat_getLast hne]
      exact h1 _ _ (ih _ (by simp; omega))
  exact this _ l rfl

/-- What the sheet holds is the reference's. -/
theorem puts_now (ws : List Int) (l : List (Int × Int)) (h : InR l) (i : Nat) (hi : i < 3128) : refFrom ws l i l.length = ((Sh.new ws).puts l).now i := by
  revert h
  refine snoc_ind (P := fun l => InR l → refFrom ws l i l.length = ((Sh.new ws).puts l).now i) ?_ ?_ l
  · intro _
    show refWord ws i = _
    simp only [Sh.puts, Sh.new, refWord]
    by_cases hl : i < ws.length
    · rw [if_neg (by omega), if_pos hi]; rfl
    · rw [if_pos (by omega), if_pos hi, List.getD_eq_getElem?_getD, List.getElem?_eq_none (by omega)]; rfl
  · intro l x ih h
    have hx := h x (by simp)
    rw [Sh.puts_snoc, List.length_append]
    show refFrom ws (l ++ [x]) i (l.length + 1) = _
    simp only [refFrom]
    rw [refFrom_snoc _ _ _ _ _ (Nat.le_refl _), ih (fun y hy => h y (by simp [hy]))]
    have : (l ++ [x]).getD l.length (0, 0) = x := by
      rw [List.getD_eq_getElem?_getD, List.getElem?_append_right (Nat.le_refl _)]; simp
    rw [this]
    unfold Sh.put
    rw [if_pos hx]
    simp only [upd]
    by_cases e : x.1 = (i : Int)
    · rw [if_pos e, if_pos (by omega)]
    · rw [if_neg e, if_neg (by omega)]

theorem puts_beneath (S : Sh) (l : List (Int × Int)) : (S.puts l).beneath = S.beneath := by
  induction l generalizing S with
  | nil => rfl
  | cons x l ih => rw [Sh.puts, ih]; unfold Sh.put; split <;> rfl

/-- Out of range: nought. -/
theorem refFrom_out (ws : List Int) (l : List (Int × Int)) (h : InR l) (i : Int) (hi : ¬ (0 ≤ i ∧ i < 3128)) (k : Nat) (hk : k ≤ l.length) : refFrom ws l i k = 0 := by
  induction k with
  | zero => show refWord ws i = 0; unfold refWord; rw [if_pos (by omega)]
  | succ k ih =>
    simp only [refFrom]
    have hm : l.getD k (0, 0) ∈ l := by
      rw [List.getD_eq_getElem?_getD, List.getElem?_eq_getElem (by omega)]
      exact List.getElem_mem (by omega)
    rw [if_neg (fun e => by have := h _ hm; omega), ih (by omega)]

/-- A get is the reference's, wherever. -/
theorem puts_get (ws : List Int) (l : List (Int × Int)) (h : InR l) (i : Int) : ((Sh.new ws).puts l).get i = refFrom ws l i l.length := by
  unfold Sh.get
  by_cases hi : 0 ≤ i ∧ i < 3128
  · obtain ⟨n, rfl⟩ := Int.eq_ofNat_of_zero_le hi.1
    rw [if_pos hi, puts_now ws l h n (by omega)]
    rfl
  · rw [if_neg hi, refFrom_out ws l h i hi _ (Nat.le_refl _)]
end Go.Proofs.Ytcbcemeagiociaa

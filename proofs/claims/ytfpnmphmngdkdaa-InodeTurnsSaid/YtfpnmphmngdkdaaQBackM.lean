/-
  Puts, and taking them back: plain lemmas. Nothing is assumed.
-/
import Derived.Test.YtfpnmphmngdkdaaQBack
import Derived.Test.YtfpnmphmngdkdaaQFree8

namespace Go.Proofs.Ytfpnmphmngdkdaa
set_option linter.unusedVariables false
set_option linter.unusedSimpArgs false

/-- Puts, one behind the other. -/
def Sh.puts (S : Sh) : List (Int × Int) → Sh
  | [] => S
  | x :: l => (S.put x.1 x.2).puts l

theorem Sh.puts_snoc (S : Sh) (l : List (Int × Int)) (x : Int × Int) : S.puts (l ++ [x]) = (S.puts l).put x.1 x.2 := by
  induction l generalizing S with
  | nil => rfl
  | cons y l ih => exact ih _

theorem undo_put (S : Sh) (i v : Int) (h : 0 ≤ i ∧ i < 3128) : (S.put i v).undo = S := by
  have e : S.put i v = { S with now := upd S.now i.toNat v, was := S.was ++ [(i.toNat, S.now i.toNat)] } := by
    unfold Sh.put
    rw [if_pos h]
  rw [e, undo_snoc (S := { S with now := upd S.now i.toNat v, was := S.was ++ [(i.toNat, S.now i.toNat)] }) rfl]
  have : upd (upd S.now i.toNat v) i.toNat (S.now i.toNat) = S.now := by
    funext k
    simp only [upd]
    split
    · rename_i h; rw [h]
    · rfl
  simp only [this]

/-- All puts in range. -/
def InR (l : List (Int × Int)) : Prop := ∀ x ∈ l, 0 ≤ x.1 ∧ x.1 < 3128

theorem puts_was (S : Sh) (l : List (Int × Int)) (h : InR l) : (S.puts l).was.length = S.was.length + l.length := by
  induction l generalizing S with
  | nil => rfl
  | cons x l ih =>
    have hx := h x (by simp)
    rw [Sh.puts, ih _ (fun y hy => h y (by simp [hy]))]
    unfold Sh.put
    rw [if_pos hx]
    simp
    omega

theorem undoN_puts (S : Sh) (n : Nat) : ∀ (l : List (Int × Int)), InR l → n ≤ l.length → (S.puts l).undoN n = S.puts (l.take (l.length - n)) := by
  induction n with
  | zero => intro l _ _; rw [Nat.sub_zero, List.take_length]; rfl
  | succ n ih =>
    intro l hl hn
    have hne : l ≠ [] := fun e => by rw [e] at hn; simp at hn
    obtain ⟨init, x, rfl⟩ : ∃ init x, l = init ++ [x] := ⟨_, _, (List.dropLast_concat_getLast hne).symm⟩
    rw [Sh.puts_snoc]
    show (((S.puts init).put x.1 x.2).undo).undoN n = _
    rw [undo_put _ _ _ (hl x (by simp)), ih init (fun y hy => hl y (by simp [hy])) (by simp at hn; omega)]
    congr 1
    rw [List.length_append, List.take_append_of_le_length (by simp only [List.length_singleton]; omega)]
    congr 1
    simp


theorem setB_puts (S : Sh) (b : Nat) (hb : b < 256) (u : Bool) : ∃ L, InR L ∧ setB S b u = S.puts L := by
  unfold setB
  split
  · exact ⟨[], fun x hx => (by cases hx), rfl⟩
  · refine ⟨[(((816 + b / 64 : Nat) : Int), (flipW S b : Nat))], fun x hx => ?_, by simp only [Sh.puts]⟩
    rw [List.mem_singleton] at hx
    rw [hx]
    dsimp only
    omega
theorem Sh.puts_append (S : Sh) (l m : List (Int × Int)) : S.puts (l ++ m) = (S.puts l).puts m := by
  induction l generalizing S with
  | nil => rfl
  | cons x l ih => exact ih _
theorem giveS_puts (l : List Nat) (hl : ∀ b ∈ l, b < 256) : ∀ S : Sh, ∃ L, InR L ∧ giveS S l = S.puts L := by
  induction l with
  | nil => intro S; exact ⟨[], fun x hx => (by cases hx), rfl⟩
  | cons b l ih =>
    intro S
    obtain ⟨L1, h1, e1⟩ := setB_puts S b (hl b (by simp)) false
    obtain ⟨L2, h2, e2⟩ := ih (fun c hc => hl c (by simp [hc])) (setB S b false)
    refine ⟨L1 ++ L2, fun x hx => (List.mem_append.1 hx).elim (h1 x) (h2 x), ?_⟩
    show giveS (setB S b false) l = _
    rw [e2, e1, Sh.puts_append]
theorem giveS_back (l : List Nat) (hl : ∀ b ∈ l, b < 256) (S : Sh) : (giveS S l).back (S.was.length : Nat) = S := by
  obtain ⟨L, hL, e⟩ := giveS_puts l hl S
  unfold Sh.back
  rw [e, puts_was S L hL, Int.toNat_natCast, show S.was.length + L.length - S.was.length = L.length by omega, undoN_puts S L.length L hL (Nat.le_refl _), Nat.sub_self, List.take_zero]
  rfl
end Go.Proofs.Ytfpnmphmngdkdaa
